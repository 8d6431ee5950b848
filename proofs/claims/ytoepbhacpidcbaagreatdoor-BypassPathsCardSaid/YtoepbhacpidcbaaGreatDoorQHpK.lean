/- A heap's tree and places, as a bag: plain; and how they lie in memory. -/
import Derived.BigRegion
import Derived.Test.YtoepbhacpidcbaaGreatDoorQBase
import Derived.Test.YtoepbhacpidcbaaGreatDoorQIdx
import Derived.Test.YtoepbhacpidcbaaGreatDoorQIdxB
import Derived.Test.YtoepbhacpidcbaaGreatDoorQPerm
import Derived.Test.YtoepbhacpidcbaaGreatDoorQRef
import Derived.Test.YtoepbhacpidcbaaGreatDoorQBig
import Derived.Test.YtoepbhacpidcbaaGreatDoorQUnref
import Derived.Test.YtoepbhacpidcbaaGreatDoorQUnE
import Derived.Test.YtoepbhacpidcbaaGreatDoorQItr
import Derived.Test.YtoepbhacpidcbaaGreatDoorQDst
import Derived.Test.YtoepbhacpidcbaaGreatDoorQLnk
import Derived.Test.YtoepbhacpidcbaaGreatDoorQRow2
import Derived.Test.YtoepbhacpidcbaaGreatDoorQGr
import Derived.Test.YtoepbhacpidcbaaGreatDoorQGOps
import Derived.Test.YtoepbhacpidcbaaGreatDoorQBld
import Derived.Test.YtoepbhacpidcbaaGreatDoorQBW

set_option linter.unusedVariables false
set_option linter.unusedSimpArgs false
namespace Go.Proofs.YtoepbhacpidcbaaGreatDoor
open Go.RowKit Go.Deep

def updI (f : Nat → Int) (i : Nat) (v : Int) : Nat → Int := fun j => if j = i then v else f j
theorem updI_eq (f : Nat → Int) (i : Nat) (v : Int) : updI f i v i = v := by simp [updI]
theorem updI_ne (f : Nat → Int) {i j : Nat} (v : Int) (h : j ≠ i) : updI f i v j = f j := by simp [updI, h]
theorem updI_id (f : Nat → Int) (i : Nat) (v : Int) (h : f i = v) : updI f i v = f := by
  funext j; unfold updI; split
  · next e => rw [e, h]
  · rfl
theorem setD (T : List Nat) (i j v : Nat) (hi : i < T.length) : (T.set i v).getD j 0 = if j = i then v else T.getD j 0 := by
  rw [List.getD_eq_getElem?_getD, List.getD_eq_getElem?_getD, List.getElem?_set]
  by_cases e : i = j
  · subst e; simp [hi]
  · rw [if_neg e, if_neg (Ne.symm e)]
theorem set_id (T : List Nat) (i : Nat) (hi : i < T.length) : T.set i (T.getD i 0) = T := by
  apply List.ext_getElem?
  intro j
  rw [List.getElem?_set]
  by_cases e : i = j
  · subst e; simp [hi]
  · rw [if_neg e]

/-- A tree and its places agree. -/
structure Con (n : Nat) (T : List Nat) (pl : Nat → Int) : Prop where
  up : ∀ i, i < T.length → T.getD i 0 < n ∧ pl (T.getD i 0) = i
  dn : ∀ v, v < n → pl v = -1 ∨ (0 ≤ pl v ∧ pl v < T.length ∧ T.getD (pl v).toNat 0 = v)

theorem Con.inj {n : Nat} {T : List Nat} {pl : Nat → Int} (h : Con n T pl) {i j : Nat} (hi : i < T.length) (hj : j < T.length) (e : T.getD i 0 = T.getD j 0) : i = j := by
  have a := (h.up i hi).2
  have b := (h.up j hj).2
  rw [e] at a; omega

theorem Con.nil (n : Nat) : Con n [] (fun _ => -1) := ⟨fun i hi => by simp at hi, fun v _ => .inl rfl⟩

theorem Con.move {n : Nat} {T : List Nat} {pl : Nat → Int} {th at_ par : Nat} (h : Con n (T.set at_ th) (updI pl th at_)) (ha : at_ < T.length) (hp : par < T.length) (hne : par ≠ at_) :
    Con n ((T.set at_ (T.getD par 0)).set par th) (updI (updI pl (T.getD par 0) at_) th par) ∧
    (∀ v, v < n → (0 ≤ updI (updI pl (T.getD par 0) at_) th par v ↔ 0 ≤ updI pl th at_ v)) ∧ T.getD par 0 < n ∧ T.getD par 0 ≠ th := by
  have hl : (T.set at_ th).length = T.length := by simp
  have g := fun j => setD T at_ j th ha
  have gp : (T.set at_ th).getD par 0 = T.getD par 0 := by rw [g, if_neg hne]
  have ga : (T.set at_ th).getD at_ 0 = th := by rw [g, if_pos rfl]
  have hup := h.up par (by omega)
  have hua := h.up at_ (by omega)
  rw [gp] at hup
  rw [ga] at hua
  have hth : T.getD par 0 ≠ th := fun e => hne (h.inj (by omega) (by omega) (by rw [gp, ga]; exact e))
  have hpp : pl (T.getD par 0) = par := by have := hup.2; rwa [updI_ne _ _ hth] at this
  have g2 : ∀ j, ((T.set at_ (T.getD par 0)).set par th).getD j 0 = if j = par then th else if j = at_ then T.getD par 0 else T.getD j 0 := fun j => by
    rw [setD _ _ _ _ (by simpa using hp), setD _ _ _ _ ha]
  refine ⟨⟨fun i hi => ?_, fun v hv => ?_⟩, fun v hv => ?_, hup.1, hth⟩
  · have hi' : i < T.length := by simpa using hi
    rw [g2]
    by_cases e1 : i = par
    · subst e1; rw [if_pos rfl]; exact ⟨hua.1, updI_eq _ _ _⟩
    · rw [if_neg e1]
      by_cases e2 : i = at_
      · subst e2; rw [if_pos rfl]; exact ⟨hup.1, by rw [updI_ne _ _ hth, updI_eq]⟩
      · rw [if_neg e2]
        have hu := h.up i (by omega)
        have gi : (T.set at_ th).getD i 0 = T.getD i 0 := by rw [g, if_neg e2]
        have n1 : T.getD i 0 ≠ th := fun e => e2 (h.inj (by omega) (by omega) (by rw [gi, ga]; exact e))
        have n2 : T.getD i 0 ≠ T.getD par 0 := fun e => e1 (h.inj (by omega) (by omega) (by rw [gi, gp]; exact e))
        rw [gi, updI_ne _ _ n1] at hu
        exact ⟨hu.1, by rw [updI_ne _ _ n1, updI_ne _ _ n2]; exact hu.2⟩
  · have hl2 : ((T.set at_ (T.getD par 0)).set par th).length = T.length := by simp
    rw [hl2]
    by_cases e1 : v = th
    · subst e1; rw [updI_eq]; exact .inr ⟨by omega, by omega, by rw [g2, Int.toNat_natCast, if_pos rfl]⟩
    · rw [updI_ne _ _ e1]
      by_cases e2 : v = T.getD par 0
      · rw [e2, updI_eq]; exact .inr ⟨by omega, by omega, by rw [g2, Int.toNat_natCast, if_neg (Ne.symm hne), if_pos rfl]⟩
      · rw [updI_ne _ _ e2]
        have hd := h.dn v hv
        rw [updI_ne _ _ e1, hl] at hd
        rcases hd with hd | ⟨d1, d2, d3⟩
        · exact .inl hd
        · refine .inr ⟨d1, d2, ?_⟩
          rw [g] at d3
          have n2 : (pl v).toNat ≠ at_ := fun e => by rw [if_pos e] at d3; exact e1 d3.symm
          rw [if_neg n2] at d3
          have n1 : (pl v).toNat ≠ par := fun e => by rw [e] at d3; exact e2 d3.symm
          rw [g2, if_neg n1, if_neg n2, d3]
  · by_cases e1 : v = th
    · subst e1; rw [updI_eq, updI_eq]; omega
    · rw [updI_ne _ _ e1, updI_ne _ _ e1]
      by_cases e2 : v = T.getD par 0
      · rw [e2, updI_eq, hpp]; omega
      · rw [updI_ne _ _ e2]

theorem appD (T : List Nat) (v j : Nat) : (T ++ [v]).getD j 0 = if j = T.length then v else T.getD j 0 := by
  rw [List.getD_eq_getElem?_getD, List.getD_eq_getElem?_getD, List.getElem?_append]
  by_cases e : j < T.length
  · rw [if_pos e, if_neg (by omega)]
  · rw [if_neg e]
    by_cases e2 : j = T.length
    · subst e2; simp
    · rw [if_neg e2, List.getElem?_eq_none (by simp; omega), List.getElem?_eq_none (by omega)]

theorem Con.push {n : Nat} {T : List Nat} {pl : Nat → Int} (h : Con n T pl) {th : Nat} (ht : th < n) (hm : pl th < 0) : Con n (T ++ [th]) (updI pl th T.length) := by
  have hlen : (T ++ [th]).length = T.length + 1 := by simp
  refine ⟨fun i hi => ?_, fun v hv => ?_⟩
  · rw [appD]
    by_cases e : i = T.length
    · rw [if_pos e, e]; exact ⟨ht, updI_eq _ _ _⟩
    · rw [if_neg e]
      have hu := h.up i (by omega)
      refine ⟨hu.1, ?_⟩
      rw [updI_ne _ _ (fun e2 => by rw [e2] at hu; omega)]; exact hu.2
  · by_cases e : v = th
    · subst e; rw [updI_eq]; exact .inr ⟨by omega, by omega, by rw [appD, Int.toNat_natCast, if_pos rfl]⟩
    · rw [updI_ne _ _ e]
      rcases h.dn v hv with hd | ⟨d1, d2, d3⟩
      · exact .inl hd
      · exact .inr ⟨d1, by omega, by rw [appD, if_neg (by omega)]; exact d3⟩

theorem takeD (T : List Nat) (m j : Nat) (h : j < m) : (T.take m).getD j 0 = T.getD j 0 := by
  rw [List.getD_eq_getElem?_getD, List.getD_eq_getElem?_getD, List.getElem?_take, if_pos h]

/-- The top is taken out, and the last one is laid there. -/
theorem Con.pop {n : Nat} {T : List Nat} {pl : Nat → Int} (h : Con n T pl) {m : Nat} (hm : T.length = m + 1) :
    Con n ((T.set 0 (T.getD m 0)).take m) (updI (updI pl (T.getD m 0) 0) (T.getD 0 0) (-1)) ∧
    (∀ v, v < n → (0 ≤ updI (updI pl (T.getD m 0) 0) (T.getD 0 0) (-1) v ↔ v ≠ T.getD 0 0 ∧ 0 ≤ pl v)) := by
  have g2 : ∀ j, j < m → ((T.set 0 (T.getD m 0)).take m).getD j 0 = if j = 0 then T.getD m 0 else T.getD j 0 := fun j hj => by
    rw [takeD _ _ _ hj, setD _ _ _ _ (by omega)]
  have hlen : ((T.set 0 (T.getD m 0)).take m).length = m := by simp; omega
  have h0 := h.up 0 (by omega)
  have hL := h.up m (by omega)
  refine ⟨⟨fun i hi => ?_, fun v hv => ?_⟩, fun v hv => ?_⟩
  · rw [hlen] at hi
    have hm0 : T.getD m 0 ≠ T.getD 0 0 := fun e => by have := h.inj (by omega) (by omega) e; omega
    rw [g2 i hi]
    by_cases e : i = 0
    · rw [if_pos e, e]; exact ⟨hL.1, by rw [updI_ne _ _ hm0, updI_eq]; rfl⟩
    · rw [if_neg e]
      have hu := h.up i (by omega)
      exact ⟨hu.1, by rw [updI_ne _ _ (fun e2 => e (h.inj (by omega) (by omega) e2)), updI_ne _ _ (fun e2 => by have := h.inj (by omega) (by omega) e2; omega)]; exact hu.2⟩
  · by_cases e : v = T.getD 0 0
    · rw [e, updI_eq]; exact .inl rfl
    · rw [updI_ne _ _ e, hlen]
      by_cases e2 : v = T.getD m 0
      · have hm1 : 0 < m := Nat.pos_of_ne_zero fun e3 => e (by rw [e2, e3])
        rw [e2, updI_eq]; exact .inr ⟨by omega, by omega, by rw [show ((0 : Int).toNat) = 0 from rfl, g2 0 hm1, if_pos rfl]⟩
      · rw [updI_ne _ _ e2]
        rcases h.dn v hv with hd | ⟨d1, d2, d3⟩
        · exact .inl hd
        · have n0 : (pl v).toNat ≠ 0 := fun e3 => by rw [e3] at d3; exact e d3.symm
          have nm : (pl v).toNat ≠ m := fun e3 => by rw [e3] at d3; exact e2 d3.symm
          exact .inr ⟨d1, by omega, by rw [g2 _ (by omega), if_neg n0]; exact d3⟩
  · by_cases e : v = T.getD 0 0
    · rw [e, updI_eq]; simp
    · rw [updI_ne _ _ e]
      by_cases e2 : v = T.getD m 0
      · rw [e2, updI_eq]; have := hL.2; constructor
        · intro _; exact ⟨e2 ▸ e, by omega⟩
        · intro _; omega
      · rw [updI_ne _ _ e2]; exact ⟨fun h => ⟨e, h⟩, fun h => h.2⟩

theorem nodup_leH : ∀ (n : Nat) (L : List Nat), L.Nodup → (∀ z ∈ L, z < n) → L.length ≤ n := by
  intro n
  induction n with
  | zero =>
    intro L _ h
    match L with
    | [] => exact Nat.le_refl _
    | z :: L => exact absurd (h z (by simp)) (by omega)
  | succ n ih =>
    intro L hd h
    have h1 := ih (L.erase n) (hd.erase n) (fun z hz => by
      have h2 := h z (List.mem_of_mem_erase hz)
      have h3 : z ≠ n := fun e => by
        subst e
        exact (hd.mem_erase_iff.1 hz).1 rfl
      omega)
    have h4 := List.length_erase_le (l := L) (a := n)
    by_cases hm : n ∈ L
    · rw [List.length_erase_of_mem hm] at h1
      omega
    · rw [List.erase_of_not_mem hm] at h1
      omega
/-- The arcs of an entry that is told: a simple walk; fewer than there are vertices. -/

theorem Con.len {n : Nat} {T : List Nat} {pl : Nat → Int} (h : Con n T pl) : T.length ≤ n := by
  have hnd : T.Nodup := by
    rw [List.nodup_iff_pairwise_ne, List.pairwise_iff_getElem]
    intro i j hi hj hij e
    have := h.inj hi hj (by rw [List.getD_eq_getElem?_getD, List.getD_eq_getElem?_getD, List.getElem?_eq_getElem hi, List.getElem?_eq_getElem hj]; simpa using e)
    omega
  exact nodup_leH n T hnd fun v hv => by
    obtain ⟨i, hi, e⟩ := List.mem_iff_getElem.1 hv
    have := (h.up i hi).1
    rw [List.getD_eq_getElem?_getD, List.getElem?_eq_getElem hi] at this
    rw [← e]; simpa using this

def TI (T : List Nat) : List Int := T.map (fun (v : Nat) => (v : Int))
theorem TI_len (T : List Nat) : (TI T).length = T.length := by simp [TI]
theorem TI_set (T : List Nat) (i v : Nat) : TI (T.set i v) = (TI T).set i (v : Int) := by simp [TI, List.map_set]
theorem TI_getD (T : List Nat) (i : Nat) : (TI T).getD i 0 = (T.getD i 0 : Nat) := by
  unfold TI
  rw [List.getD_eq_getElem?_getD, List.getD_eq_getElem?_getD, List.getElem?_map]
  cases T[i]? <;> rfl

/-- A store into a row of one's own. -/
theorem ownsRow_set {w : World} {base g n cap : Nat} {e : TypeId} {xs : List Value} (h : w.ownsRow base e 1 (.slice (some ⟨g, 0, none⟩) n cap) n xs) (i : Nat) (v : Value) :
    (w.setCell ⟨g, i, none⟩ v).ownsRow base e 1 (.slice (some ⟨g, 0, none⟩) n cap) n (xs.set i v) := by
  obtain ⟨h1, h2⟩ := h
  refine ⟨by simpa using h1, ?_⟩
  rcases h2 with ⟨e0, _⟩ | ⟨g', cap', cur, e0, hb, hg, hn, hm, hs, ht⟩
  · cases e0
  · injection e0 with e1 _ e3
    injection e1 with e1
    injection e1 with e1
    subst e1; subst e3
    refine .inr ⟨g, cap, cur.setIfInBounds i v, rfl, hb, heap_set hg i v, hn, hm, by simpa using hs, ?_⟩
    rw [Array.toList_setIfInBounds, List.take_set, ht]

end Go.Proofs.YtoepbhacpidcbaaGreatDoor

/- How a heap lies in memory; a thing that is laid; which of two things is ahead; walked. -/
set_option linter.unusedVariables false
set_option linter.unusedSimpArgs false
namespace Go.Proofs.YtoepbhacpidcbaaGreatDoor
open Go.RowKit Go.Deep

structure HLoc where
  b : Nat
  t : Value
  p : Nat
  q : Nat
  base : Nat
def HLoc.own (L : HLoc) (j : Nat) : Prop := j = L.b ∨ j = L.p ∨ j = L.q ∨ L.t.ownBlock = some j

structure HpMem (w : World) (L : HLoc) (n : Nat) (T : List Nat) (pl pr : Nat → Int) : Prop where
  h : w.heap[L.b]? = some (.cells #[L.t, .slice (some ⟨L.p, 0, none⟩) n n, .slice (some ⟨L.q, 0, none⟩) n n] 263)
  tr : w.ownsRow L.base 3 1 L.t (TI T).length ((TI T).map (Value.int .i64))
  pb : Blk w L.p n 3 (fun i => .int .i64 (pl i))
  qb : Blk w L.q n 3 (fun i => .int .i64 (pr i))
  d : L.b ≠ L.p ∧ L.b ≠ L.q ∧ L.p ≠ L.q
  bb : L.b < L.base ∧ L.p < L.base ∧ L.q < L.base
  bs : L.base ≤ w.heap.size

theorem own_frH {w w' : World} {base : Nat} {e : TypeId} {size : Nat} {v : Value} {n : Nat} {xs : List Value} (h : w.ownsRow base e size v n xs) {F : Nat → Prop} (hf : Fr F w w') (hF : ∀ j, v.ownBlock = some j → ¬ F j) : w'.ownsRow base e size v n xs := by
  obtain ⟨h1, h2⟩ := h
  refine ⟨h1, ?_⟩
  rcases h2 with h2 | ⟨g, cap, cur, e0, hb, hg, r⟩
  · exact .inl h2
  · refine .inr ⟨g, cap, cur, e0, hb, ?_, r⟩
    have hlt : g < w.heap.size := by
      rcases Nat.lt_or_ge g w.heap.size with h' | h'
      · exact h'
      · rw [Array.getElem?_eq_none h'] at hg; cases hg
    rw [hf.block g hlt (hF g (by rw [e0]; rfl))]; exact hg

theorem heap_lt {w : World} {b : Nat} {o : Obj} (h : w.heap[b]? = some o) : b < w.heap.size := by
  rcases Nat.lt_or_ge b w.heap.size with h' | h'
  · exact h'
  · rw [Array.getElem?_eq_none h'] at h; cases h

theorem HpMem.fr {w w' : World} {L : HLoc} {n : Nat} {T : List Nat} {pl pr : Nat → Int} (h : HpMem w L n T pl pr) {F : Nat → Prop} (hf : Fr F w w') (hF : ∀ j, L.own j → ¬ F j) : HpMem w' L n T pl pr :=
  ⟨(hf.block _ (heap_lt h.h) (hF _ (.inl rfl))).trans h.h, own_frH h.tr hf (fun j hj => hF j (.inr (.inr (.inr hj)))), h.pb.fr hf (hF _ (.inr (.inl rfl))), h.qb.fr hf (hF _ (.inr (.inr (.inl rfl)))), h.d, h.bb, Nat.le_trans h.bs hf.size⟩
theorem HpMem.no {w w' : World} {L : HLoc} {n : Nat} {T : List Nat} {pl pr : Nat → Int} (h : HpMem w L n T pl pr) (hf : Fr No w w') : HpMem w' L n T pl pr := h.fr hf (fun _ _ h => h)

theorem HpMem.own_lt {w : World} {L : HLoc} {n : Nat} {T : List Nat} {pl pr : Nat → Int} (h : HpMem w L n T pl pr) {j : Nat} (hj : L.own j) : j < w.heap.size := by
  rcases hj with rfl | rfl | rfl | hj
  · exact heap_lt h.h
  · exact h.pb.lt
  · exact h.qb.lt
  · exact (h.tr.lt j hj).2

theorem HpMem.tree {w : World} {L : HLoc} {n : Nat} {T : List Nat} {pl pr : Nat → Int} (h : HpMem w L n T pl pr) (h0 : 0 < T.length) :
    ∃ g cap, L.t = .slice (some ⟨g, 0, none⟩) T.length cap ∧ L.base ≤ g ∧ g < w.heap.size ∧ (∀ j, j < T.length → w.cell? ⟨g, j, none⟩ = some (.int .i64 (T.getD j 0 : Nat))) ∧ (∀ i, w.frozen? ⟨g, i, none⟩ = false) ∧ T.length ≤ cap ∧ cap ≤ maxLen := by
  have ht := h.tr
  rw [TI_len] at ht
  obtain ⟨h1, h2 | ⟨g, cap, cur, e0, hb, hg, h3, h4, h5, h6⟩⟩ := ht
  · omega
  · have ho : w.ownsRow L.base 3 1 (.slice (some ⟨g, 0, none⟩) T.length cap) T.length ((TI T).map (Value.int .i64)) := ⟨h1, .inr ⟨g, cap, cur, rfl, hb, hg, h3, h4, h5, h6⟩⟩
    obtain ⟨_, o2, _, _, o5⟩ := own_list ho
    exact ⟨g, cap, e0, hb, o2, fun j hj => by rw [o5 j hj, TI_getD], fun i => by simp [World.frozen?, hg], h3, h4⟩

theorem HpMem.len {w : World} {L : HLoc} {n : Nat} {T : List Nat} {pl pr : Nat → Int} (h : HpMem w L n T pl pr) : ∃ A cap, L.t = .slice A T.length cap := by
  have ht := h.tr
  rw [TI_len] at ht
  obtain ⟨h1, ⟨e, h2⟩ | ⟨g, cap, cur, e0, _⟩⟩ := ht
  · exact ⟨none, 0, by rw [e, h2]⟩
  · exact ⟨_, cap, e0⟩

theorem HpMem.setT {w : World} {L : HLoc} {n : Nat} {T : List Nat} {pl pr : Nat → Int} (h : HpMem w L n T pl pr) {g cap : Nat} (ht : L.t = .slice (some ⟨g, 0, none⟩) T.length cap) (i v : Nat) :
    HpMem (w.setCell ⟨g, i, none⟩ (.int .i64 (v : Nat))) L n (T.set i v) pl pr := by
  have hg : L.base ≤ g := by have := (h.tr.lt g (by rw [ht]; rfl)).1; exact this
  have bb := h.bb
  refine ⟨?_, ?_, h.pb.setCell_ne (p := ⟨g, i, none⟩) (show g ≠ L.p by omega) _, h.qb.setCell_ne (p := ⟨g, i, none⟩) (show g ≠ L.q by omega) _, h.d, h.bb, by simpa using h.bs⟩
  · rw [Below.heap_setCell _ _ _ _ (show L.b ≠ g by omega)]; exact h.h
  · have hr := h.tr
    rw [TI_set, List.map_set, List.length_set]
    rw [ht, TI_len] at hr ⊢
    exact ownsRow_set hr i _
theorem HpMem.setP {w : World} {L : HLoc} {n : Nat} {T : List Nat} {pl pr : Nat → Int} (h : HpMem w L n T pl pr) (i : Nat) (v : Int) :
    HpMem (w.setCell ⟨L.p, i, none⟩ (.int .i64 v)) L n T (updI pl i v) pr := by
  have bb := h.bb
  have d := h.d
  have hb : ∀ j, L.t.ownBlock = some j → ¬ One L.p j := fun j hj e => by
    have e : j = L.p := e
    have := (h.tr.lt j hj).1; omega
  refine ⟨?_, own_frH h.tr ((Fr.refl (One L.p) w).set1 i _) hb, (h.pb.setCell i _).congr fun j _ => ?_, h.qb.setCell_ne (p := ⟨L.p, i, none⟩) d.2.2 _, d, bb, by simpa using h.bs⟩
  · rw [Below.heap_setCell _ _ _ _ d.1]; exact h.h
  · unfold upd updI; split <;> rfl
theorem HpMem.setQ {w : World} {L : HLoc} {n : Nat} {T : List Nat} {pl pr : Nat → Int} (h : HpMem w L n T pl pr) (i : Nat) (v : Int) :
    HpMem (w.setCell ⟨L.q, i, none⟩ (.int .i64 v)) L n T pl (updI pr i v) := by
  have bb := h.bb
  have d := h.d
  have hb : ∀ j, L.t.ownBlock = some j → ¬ One L.q j := fun j hj e => by
    have e : j = L.q := e
    have := (h.tr.lt j hj).1; omega
  refine ⟨?_, own_frH h.tr ((Fr.refl (One L.q) w).set1 i _) hb, h.pb.setCell_ne (p := ⟨L.q, i, none⟩) (Ne.symm d.2.2) _, (h.qb.setCell i _).congr fun j _ => ?_, d, bb, by simpa using h.bs⟩
  · rw [Below.heap_setCell _ _ _ _ d.2.1]; exact h.h
  · unfold upd updI; split <;> rfl
theorem HpMem.alloc {w : World} {L : HLoc} {n : Nat} {T : List Nat} {pl pr : Nat → Int} (h : HpMem w L n T pl pr) (o : Obj) : HpMem (w.alloc o) L n T pl pr := h.no ((Fr.refl No w).alloc o)

set_option maxRecDepth 100000 in
set_option maxHeartbeats 2000000 in
theorem hlay_calls {w : World} {L : HLoc} {n : Nat} {T : List Nat} {pl pr : Nat → Int} (h : HpMem w L n T pl pr) (th at_ : Nat) (h1 : th < n) (h2 : at_ < T.length) (hn : n ≤ 64) (hT : T.length ≤ 64) :
    Calls Tryz.prog 186 #[.pointer (some ⟨L.b, 0, none⟩), .int .i64 (th : Nat), .int .i64 (at_ : Nat)] w fun e w' => e = .returned (.tuple #[]) ∧ HpMem w' L n (T.set at_ th) (updI pl th at_) pr ∧ Fr L.own w w' := by
  obtain ⟨g, cap, ht, g1, g2, gc, gf, g5, g6⟩ := h.tree (by omega)
  have c0 : w.cell? ⟨L.b, 0, none⟩ = some (.slice (some ⟨g, 0, none⟩) T.length cap) := by rw [cell_of h.h, ← ht]; rfl
  have c1 : w.cell? ⟨L.b, 1, none⟩ = some (.slice (some ⟨L.p, 0, none⟩) n n) := by rw [cell_of h.h]; rfl
  have ct := gc at_ h2
  have ft := gf at_
  have cp := h.pb.cell h1
  have fp := h.pb.frozen th
  have lb := heap_lt h.h
  have lp := h.pb.lt
  have bb := h.bb
  have n1 : g ≠ L.p := by omega
  have H := hid h
  have HT := hid ht
  clear h ht gc gf
  go_enter Tryz.func186, Tryz.ntmps186
  go_wp2_with fail
  go_region
  go_end0
  have hm := ((H.out.setT HT.out at_ th).setP th at_).no ((Fr.refl No _).drew)
  exact ⟨rfl, hm, (((Fr.refl L.own w).setCell (p := ⟨g, at_, none⟩) (.inl (.inr (.inr (.inr (by rw [HT.out]; rfl))))) _).setCell (p := ⟨L.p, th, none⟩) (.inl (.inr (.inl rfl))) _).drew⟩

end Go.Proofs.YtoepbhacpidcbaaGreatDoor

/- Which of two things is ahead; walked. -/
set_option linter.unusedVariables false
set_option linter.unusedSimpArgs false
namespace Go.Proofs.YtoepbhacpidcbaaGreatDoor
open Go.RowKit Go.Deep

def orI (x y : Int) : Int := if x = 0 then y else x
def cmpI (x y : Int) : Int := if x < y then -1 else if y < x then 1 else 0

theorem hnan_calls (x : Int) (w : World) : Calls Tryz.prog 225 #[.int .i64 x] w fun e w' => e = .returned (.bool false) ∧ w' = w := by
  go_enter Tryz.func225, Tryz.ntmps225
  go_wp2
  go_ret
  exact ⟨by simp, rfl⟩

set_option maxHeartbeats 1000000 in
theorem hcmp_calls (x y : Int) (w : World) : Calls Tryz.prog 228 #[.int .i64 x, .int .i64 y] w fun e w' => e = .returned (.int .i64 (cmpI x y)) ∧ Fr No w w' := by
  go_enter Tryz.func228, Tryz.ntmps228
  go_wp2_with (go_at_call 225; refine (hnan_calls _ _).mono ?_; rintro e w' ⟨rfl, rfl⟩)
  all_goals (go_ret; refine ⟨?_, Fr.refl _ _⟩; unfold cmpI; (repeat' split) <;> first | rfl | (exfalso; omega))

set_option maxHeartbeats 1000000 in
theorem hor_calls (b : Nat) (z0 z1 : Int) (w : World) (h0 : w.cell? ⟨b, 0, none⟩ = some (.int .i64 z0)) (h1 : w.cell? ⟨b, 1, none⟩ = some (.int .i64 z1)) :
    Calls Tryz.prog 227 #[.slice (some ⟨b, 0, none⟩) 2 2] w fun e w' => e = .returned (.int .i64 (orI z0 z1)) ∧ Fr No w w' := by
  go_enter Tryz.func227, Tryz.ntmps227
  go_wp2
  go_loopg [8] 2 (fun g p wr => ∃ k : Nat, p = .int .i64 k ∧ k ≤ 2 ∧ g = 2 - k ∧ Fr No w wr ∧ (0 < k → z0 = 0) ∧ (1 < k → z1 = 0))
  case atStart => exact ⟨0, rfl, by omega, rfl, Fr.refl _ _, fun h => by omega, fun h => by omega⟩
  case round =>
    obtain ⟨k, rfl, hk, hg, hf, hz1, hz2⟩ := hrel
    have HG := hid hg
    have HF := hid hf
    clear hg hf
    have hk3 : k = 0 ∨ k = 1 ∨ k = 2 := by omega
    rcases hk3 with rfl | rfl | rfl
    · have c0 := HF.out.cell_some h0 (fun h => h)
      by_cases e : z0 = 0
      · rw [e] at c0
        have E := hid e
        clear e h0 h1 hz1 hz2
        go_wp2
        go_roundg 1
        case measure => have := HG.out; omega
        case rel => exact ⟨1, by go_num, by omega, rfl, HF.out, fun _ => E.out, fun h => by omega⟩
      · have E := hid e
        clear hz1 hz2 h0 h1
        go_wp2
        go_ret
        exact ⟨by unfold orI; rw [if_neg E.out]; rfl, HF.out⟩
    · have c1 := HF.out.cell_some h1 (fun h => h)
      have E0 := hid (hz1 (by omega))
      by_cases e : z1 = 0
      · rw [e] at c1
        have E := hid e
        clear e h0 h1 hz1 hz2
        go_wp2
        go_roundg 0
        case measure => have := HG.out; omega
        case rel => exact ⟨2, by go_num, by omega, rfl, HF.out, fun _ => E0.out, fun _ => E.out⟩
      · clear hz1 hz2 h0 h1
        go_wp2
        go_ret
        exact ⟨by unfold orI; rw [if_pos E0.out]; rfl, HF.out⟩
    · have E0 := hid (hz1 (by omega))
      have E1 := hid (hz2 (by omega))
      clear h0 h1 hz1 hz2
      go_wp2
      go_ret
      exact ⟨by unfold orI; rw [if_pos E0.out, E1.out]; rfl, HF.out⟩

def aheadB (pr : Nat → Int) (a b : Nat) : Bool := decide (orI (cmpI (pr a) (pr b)) (cmpI (a : Nat) (b : Nat)) < 0)

set_option maxRecDepth 100000 in
set_option maxHeartbeats 2000000 in
theorem hahead_calls {w : World} {L : HLoc} {n : Nat} {T : List Nat} {pl pr : Nat → Int} (h : HpMem w L n T pl pr) (a b : Nat) (ha : a < n) (hb : b < n) (hn : n ≤ 64) :
    Calls Tryz.prog 219 #[.pointer (some ⟨L.b, 0, none⟩), .int .i64 (a : Nat), .int .i64 (b : Nat)] w fun e w' => e = .returned (.bool (aheadB pr a b)) ∧ Fr No w w' := by
  have c2 : w.cell? ⟨L.b, 2, none⟩ = some (.slice (some ⟨L.q, 0, none⟩) n n) := by rw [cell_of h.h]; rfl
  have qa := h.qb.cell ha
  have qb := h.qb.cell hb
  clear h
  have kk2 : ∀ nn : Fam w, nn.v.cell? ⟨L.b, 2, none⟩ = some (.slice (some ⟨L.q, 0, none⟩) n n) := Fam.cell c2
  have kka : ∀ nn : Fam w, nn.v.cell? ⟨L.q, a, none⟩ = some (.int .i64 (pr a)) := Fam.cell qa
  have kkb : ∀ nn : Fam w, nn.v.cell? ⟨L.q, b, none⟩ = some (.int .i64 (pr b)) := Fam.cell qb
  have hc1 : ∀ nn : Fam w, Calls Tryz.prog 228 #[.int .i64 (pr a), .int .i64 (pr b)] nn.v fun e w' => e = .returned (.int .i64 (cmpI (pr a) (pr b))) ∧ Fr No nn.v w' := fun nn => hcmp_calls _ _ _
  have hc2 : ∀ nn : Fam w, Calls Tryz.prog 228 #[.int .i64 (a : Nat), .int .i64 (b : Nat)] nn.v fun e w' => e = .returned (.int .i64 (cmpI (a : Nat) (b : Nat))) ∧ Fr No nn.v w' := fun nn => hcmp_calls _ _ _
  clear c2 qa qb
  go_enter Tryz.func219, Tryz.ntmps219
  go_wp2_with fail
  refine wp_region_fam_tail 18 (by kernel_rfl) (by kernel_rfl) ?_
  simp only [List.take_succ_cons, List.take_zero, List.drop_succ_cons, List.drop_zero]
  iterate 15 (go_big_quiet_step (exact Calls.fam (hc1 _)))
  repeat (go_big_quiet_step (exact Calls.fam (hc2 _)))
  refine wpQuiet_nil ?_
  rintro w5 ⟨⟨w5, hf5⟩, rfl⟩
  have HF5 := hid hf5
  clear hf5 kk2 kka kkb hc1 hc2
  go_wp2_with fail
  refine (hor_calls _ (cmpI (pr a) (pr b)) (cmpI (a : Nat) (b : Nat)) _ (by simp [go_sem]) (by simp [go_sem])).mono ?_
  rintro e w6 ⟨rfl, hf6⟩
  go_wp2
  go_ret
  exact ⟨rfl, (HF5.out.alloc _).trans hf6⟩

end Go.Proofs.YtoepbhacpidcbaaGreatDoor

/- What stands at a place of a heap goes up as far as it must; walked. -/
set_option linter.unusedVariables false
set_option linter.unusedSimpArgs false
namespace Go.Proofs.YtoepbhacpidcbaaGreatDoor
open Go.RowKit Go.Deep

set_option maxRecDepth 100000 in
set_option maxHeartbeats 2000000 in
theorem hup_calls {w : World} {L : HLoc} {n : Nat} {T : List Nat} {pl pr : Nat → Int} (h : HpMem w L n T pl pr) (hc : Con n T pl) (at_ : Nat) (h2 : at_ < T.length) (hn : n ≤ 64) :
    Calls Tryz.prog 184 #[.pointer (some ⟨L.b, 0, none⟩), .int .i64 (at_ : Nat)] w fun e w' => e = .returned (.tuple #[]) ∧
      ∃ T' pl', HpMem w' L n T' pl' pr ∧ Con n T' pl' ∧ T'.length = T.length ∧ (∀ v, v < n → (0 ≤ pl' v ↔ 0 ≤ pl v)) ∧ Fr L.own w w' := by
  have hT := hc.len
  obtain ⟨g, cap, ht, g1, g2, gc, gf, g5, g6⟩ := h.tree (by omega)
  have c0 : w.cell? ⟨L.b, 0, none⟩ = some (.slice (some ⟨g, 0, none⟩) T.length cap) := by rw [cell_of h.h, ← ht]; rfl
  have ct := gc at_ h2
  obtain ⟨th, hth⟩ : ∃ th, T.getD at_ 0 = th := ⟨_, rfl⟩
  have hu := hc.up at_ h2
  rw [hth] at ct hu
  have e1 : T.set at_ th = T := by rw [← hth]; exact set_id T at_ h2
  have e2 : updI pl th at_ = pl := updI_id _ _ _ hu.2
  have hthn := hu.1
  have H := hid h
  have HT := hid ht
  have HC : Hid (Con n (T.set at_ th) (updI pl th at_)) := hid (by rw [e1, e2]; exact hc)
  have HM : Hid (∀ v, v < n → (0 ≤ updI pl th at_ v ↔ 0 ≤ pl v)) := hid (by rw [e2]; exact fun v _ => Iff.rfl)
  clear h ht gc gf hc hth hu e1 e2
  go_enter Tryz.func184, Tryz.ntmps184
  go_wp2_with fail
  go_loopg [1] at_ (fun m p wr => ∃ (k : Nat) (T' : List Nat) (pl' : Nat → Int), p = .int .i64 k ∧ k < T.length ∧ T'.length = T.length ∧ m = k ∧ Con n (T'.set k th) (updI pl' th k) ∧ (∀ v, v < n → (0 ≤ updI pl' th k v ↔ 0 ≤ pl v)) ∧ HpMem wr L n T' pl' pr ∧ Fr L.own w wr)
  case atStart => exact ⟨at_, T, pl, rfl, h2, rfl, rfl, HC.out, HM.out, H.out, Fr.refl _ _⟩
  case round =>
    obtain ⟨k, T', pl', rfl, hk, hl, hg, hcon, hmem, hm, hf⟩ := hrel
    have HG := hid hg
    clear hg
    obtain ⟨g', cap', ht', _, _, gc, gf, _, _⟩ := hm.tree (by omega)
    have heq := HT.out.symm.trans ht'
    rw [hl] at heq
    injection heq with q1 _ q3
    injection q1 with q1
    injection q1 with q1
    subst q1; subst q3
    have c0' : wr.cell? ⟨L.b, 0, none⟩ = some (.slice (some ⟨g, 0, none⟩) T.length cap) := by rw [cell_of hm.h, HT.out]; rfl
    have HM1 := hid hm
    have HF1 := hid hf
    have HC1 := hid hcon
    have HB1 := hid hmem
    have HL := hid hl
    clear hm hf hcon hmem ht' c0 ct
    by_cases h0 : k = 0
    · subst h0
      clear gc gf
      go_wp2_with fail
      refine (hlay_calls HM1.out th 0 hthn (by have := HL.out; omega) hn (by have := HL.out; omega)).mono ?_
      rintro e w1 ⟨rfl, hm1, hf1⟩
      go_wp2
      go_end0
      exact ⟨rfl, _, _, hm1, HC1.out, by have := HL.out; simpa using this, HB1.out, HF1.out.trans hf1⟩
    · have hpk : (k - 1) / 2 < k := by omega
      have hmv := HC1.out.move (T := T') (pl := pl') (par := (k - 1) / 2) (by have := HL.out; omega) (by have := HL.out; omega) (by omega)
      have cp := gc ((k - 1) / 2) (by omega)
      obtain ⟨tp, htp⟩ : ∃ tp, T'.getD ((k - 1) / 2) 0 = tp := ⟨_, rfl⟩
      rw [htp] at cp hmv
      obtain ⟨mv1, mv2, mv3, mv4⟩ := hmv
      have MV1 := hid mv1
      have MV2 := hid mv2
      clear mv1 mv2 mv4 gc gf htp
      have hk0 : (0 : Int) < k := by omega
      go_wp2_with fail
      refine (hahead_calls HM1.out th tp hthn mv3 hn).mono ?_
      rintro e w1 ⟨rfl, hf1⟩
      have HM2 := hid (HM1.out.no hf1)
      have HF2 := hid (HF1.out.trans (hf1.no (F := L.own)))
      have c1 := hf1.cell_some c0' (fun h => h)
      have cp1 := hf1.cell_some cp (fun h => h)
      clear hf1 c0' cp
      cases hd : aheadB pr th tp with
      | false =>
        go_wp2_with fail
        refine (hlay_calls HM2.out th k hthn (by have := HL.out; omega) hn (by have := HL.out; omega)).mono ?_
        rintro e w2 ⟨rfl, hm2, hf2⟩
        go_wp2
        go_end0
        exact ⟨rfl, _, _, hm2, HC1.out, by have := HL.out; simpa using this, HB1.out, HF2.out.trans hf2⟩
      | true =>
        go_wp2_with fail
        refine (hlay_calls HM2.out tp k mv3 (by have := HL.out; omega) hn (by have := HL.out; omega)).mono ?_
        rintro e w2 ⟨rfl, hm2, hf2⟩
        go_wp2_with fail
        go_roundg ((k - 1) / 2)
        case measure => have := HG.out; omega
        case rel => exact ⟨(k - 1) / 2, _, _, by go_num, by omega, by have := HL.out; simpa using this, rfl, MV1.out, fun v hv => (MV2.out v hv).trans (HB1.out v hv), hm2, HF2.out.trans hf2⟩

end Go.Proofs.YtoepbhacpidcbaaGreatDoor

/- What stands at a place of a heap goes down as far as it must; walked. -/
set_option linter.unusedVariables false
set_option linter.unusedSimpArgs false
namespace Go.Proofs.YtoepbhacpidcbaaGreatDoor
open Go.RowKit Go.Deep

set_option maxRecDepth 100000 in
set_option maxHeartbeats 4000000 in
theorem hdown_calls {w : World} {L : HLoc} {n : Nat} {T : List Nat} {pl pr : Nat → Int} (h : HpMem w L n T pl pr) (hc : Con n T pl) (at_ : Nat) (h2 : at_ < T.length) (hn : n ≤ 64) :
    Calls Tryz.prog 187 #[.pointer (some ⟨L.b, 0, none⟩), .int .i64 (at_ : Nat)] w fun e w' => e = .returned (.tuple #[]) ∧
      ∃ T' pl', HpMem w' L n T' pl' pr ∧ Con n T' pl' ∧ T'.length = T.length ∧ (∀ v, v < n → (0 ≤ pl' v ↔ 0 ≤ pl v)) ∧ Fr L.own w w' := by
  have hT := hc.len
  obtain ⟨g, cap, ht, g1, g2, gc, gf, g5, g6⟩ := h.tree (by omega)
  have c0 : w.cell? ⟨L.b, 0, none⟩ = some (.slice (some ⟨g, 0, none⟩) T.length cap) := by rw [cell_of h.h, ← ht]; rfl
  have ct := gc at_ h2
  obtain ⟨th, hth⟩ : ∃ th, T.getD at_ 0 = th := ⟨_, rfl⟩
  have hu := hc.up at_ h2
  rw [hth] at ct hu
  have e1 : T.set at_ th = T := by rw [← hth]; exact set_id T at_ h2
  have e2 : updI pl th at_ = pl := updI_id _ _ _ hu.2
  have hthn := hu.1
  have H := hid h
  have HT := hid ht
  have HC : Hid (Con n (T.set at_ th) (updI pl th at_)) := hid (by rw [e1, e2]; exact hc)
  have HM : Hid (∀ v, v < n → (0 ≤ updI pl th at_ v ↔ 0 ≤ pl v)) := hid (by rw [e2]; exact fun v _ => Iff.rfl)
  clear h ht gc gf hc hth hu e1 e2
  go_enter Tryz.func187, Tryz.ntmps187
  go_wp2_with fail
  go_loopg [1] (T.length - at_) (fun m p wr => ∃ (k : Nat) (T' : List Nat) (pl' : Nat → Int), p = .int .i64 k ∧ k < T.length ∧ T'.length = T.length ∧ m = T.length - k ∧ Con n (T'.set k th) (updI pl' th k) ∧ (∀ v, v < n → (0 ≤ updI pl' th k v ↔ 0 ≤ pl v)) ∧ HpMem wr L n T' pl' pr ∧ Fr L.own w wr)
  case atStart => exact ⟨at_, T, pl, rfl, h2, rfl, rfl, HC.out, HM.out, H.out, Fr.refl _ _⟩
  case round =>
    obtain ⟨k, T', pl', rfl, hk, hl, hg, hcon, hmem, hm, hf⟩ := hrel
    have HG := hid hg
    clear hg
    obtain ⟨g', cap', ht', _, _, gc, gf, _, _⟩ := hm.tree (by omega)
    have heq := HT.out.symm.trans ht'
    rw [hl] at heq
    injection heq with q1 _ q3
    injection q1 with q1
    injection q1 with q1
    subst q1; subst q3
    have c0' : wr.cell? ⟨L.b, 0, none⟩ = some (.slice (some ⟨g, 0, none⟩) T.length cap) := by rw [cell_of hm.h, HT.out]; rfl
    have HM1 := hid hm
    have HF1 := hid hf
    have HC1 := hid hcon
    have HB1 := hid hmem
    have HL := hid hl
    clear hm hf hcon hmem ht' c0 ct
    by_cases hend : T.length ≤ 2 * k + 1
    · clear gc gf
      have hend2 : (T.length : Int) ≤ 2 * (k : Int) + 1 := by omega
      go_wp2_with fail
      refine (hlay_calls HM1.out th k hthn (by have := HL.out; omega) hn (by have := HL.out; omega)).mono ?_
      rintro e w1 ⟨rfl, hm1, hf1⟩
      go_wp2
      go_end0
      exact ⟨rfl, _, _, hm1, HC1.out, by have := HL.out; simpa using this, HB1.out, HF1.out.trans hf1⟩
    · have hgo : 2 * k + 1 < T.length := by omega
      have hmv1 := HC1.out.move (T := T') (pl := pl') (par := 2 * k + 1) (by have := HL.out; omega) (by have := HL.out; omega) (by omega)
      have ct1 := gc (2 * k + 1) (by omega)
      obtain ⟨t1, ht1⟩ : ∃ t1, T'.getD (2 * k + 1) 0 = t1 := ⟨_, rfl⟩
      rw [ht1] at ct1 hmv1
      obtain ⟨m11, m12, t1n, _⟩ := hmv1
      have MA1 := hid m11
      have MA2 := hid m12
      clear m11 m12 ht1
      go_wp2_with fail
      by_cases hr : 2 * k + 1 + 1 < T.length
      · have hmv2 := HC1.out.move (T := T') (pl := pl') (par := 2 * k + 1 + 1) (by have := HL.out; omega) (by have := HL.out; omega) (by omega)
        have ctb := gc (2 * k + 1 + 1) (by omega)
        obtain ⟨t2, ht2⟩ : ∃ t2, T'.getD (2 * k + 1 + 1) 0 = t2 := ⟨_, rfl⟩
        rw [ht2] at ctb hmv2
        obtain ⟨m21, m22, t2n, _⟩ := hmv2
        have MB1 := hid m21
        have MB2 := hid m22
        clear m21 m22 ht2 gc gf
        have hgd : decide ((2 : Int) * (k : Int) + 1 + 1 < (T.length : Int)) = true := by simp; omega
        have hgd2 : ((2 : Int) * (k : Int) + 1 + 1 < (T.length : Int)) := by omega
        have hah : ∀ nn : Fam wr, Calls Tryz.prog 219 #[.pointer (some ⟨L.b, 0, none⟩), .int .i64 (t2 : Nat), .int .i64 (t1 : Nat)] nn.v fun e w' => e = .returned (.bool (aheadB pr t2 t1)) ∧ Fr No nn.v w' := fun nn => hahead_calls (HM1.out.no nn.h) t2 t1 t2n t1n hn
        have kk0 : ∀ nn : Fam wr, nn.v.cell? ⟨L.b, 0, none⟩ = some (.slice (some ⟨g, 0, none⟩) T.length cap) := Fam.cell c0'
        have kk1 : ∀ nn : Fam wr, nn.v.cell? ⟨g, 2 * k + 1, none⟩ = some (.int .i64 (t1 : Nat)) := Fam.cell ct1
        have kk2 : ∀ nn : Fam wr, nn.v.cell? ⟨g, 2 * k + 1 + 1, none⟩ = some (.int .i64 (t2 : Nat)) := Fam.cell ctb
        refine wp_region_fam (by kernel_rfl) (by kernel_rfl) ?_
        repeat (go_big_quiet_step (exact Calls.fam (hah _)))
        refine wpQuiet_nil ?_
        rintro w2 ⟨⟨w2, hf2⟩, rfl⟩
        have HM2 := hid (HM1.out.no hf2)
        have HF2 := hid (HF1.out.trans (hf2.no (F := L.own)))
        have c2 := hf2.cell_some c0' (fun h => h)
        cases hd : aheadB pr t2 t1 with
        | false =>
          have ct2x := hf2.cell_some ct1 (fun h => h)
          clear hf2 kk0 kk1 kk2 hah c0' ct1 ctb
          go_wp2_with fail
          refine (hahead_calls HM2.out t1 th t1n hthn hn).mono ?_
          rintro e w3 ⟨rfl, hf3⟩
          have HM3 := hid (HM2.out.no hf3)
          have HF3 := hid (HF2.out.trans (hf3.no (F := L.own)))
          have c3 := hf3.cell_some c2 (fun h => h)
          have ct3 := hf3.cell_some ct2x (fun h => h)
          clear hf3 c2 ct2x
          cases hd2 : aheadB pr t1 th with
          | false =>
            go_wp2_with fail
            refine (hlay_calls HM3.out th k hthn (by have := HL.out; omega) hn (by have := HL.out; omega)).mono ?_
            rintro e w4 ⟨rfl, hm4, hf4⟩
            go_wp2
            go_end0
            exact ⟨rfl, _, _, hm4, HC1.out, by have := HL.out; simpa using this, HB1.out, HF3.out.trans hf4⟩
          | true =>
            go_wp2_with fail
            refine (hlay_calls HM3.out t1 k t1n (by have := HL.out; omega) hn (by have := HL.out; omega)).mono ?_
            rintro e w4 ⟨rfl, hm4, hf4⟩
            go_wp2_with fail
            go_roundg (T.length - (2 * k + 1))
            case measure => have := HG.out; omega
            case rel => exact ⟨2 * k + 1, _, _, by go_num, by omega, by have := HL.out; simpa using this, rfl, MA1.out, fun v hv => (MA2.out v hv).trans (HB1.out v hv), hm4, HF3.out.trans hf4⟩
        | true =>
          have ct2x := hf2.cell_some ctb (fun h => h)
          clear hf2 kk0 kk1 kk2 hah c0' ct1 ctb
          go_wp2_with fail
          refine (hahead_calls HM2.out t2 th t2n hthn hn).mono ?_
          rintro e w3 ⟨rfl, hf3⟩
          have HM3 := hid (HM2.out.no hf3)
          have HF3 := hid (HF2.out.trans (hf3.no (F := L.own)))
          have c3 := hf3.cell_some c2 (fun h => h)
          have ct3 := hf3.cell_some ct2x (fun h => h)
          clear hf3 c2 ct2x
          cases hd2 : aheadB pr t2 th with
          | false =>
            go_wp2_with fail
            refine (hlay_calls HM3.out th k hthn (by have := HL.out; omega) hn (by have := HL.out; omega)).mono ?_
            rintro e w4 ⟨rfl, hm4, hf4⟩
            go_wp2
            go_end0
            exact ⟨rfl, _, _, hm4, HC1.out, by have := HL.out; simpa using this, HB1.out, HF3.out.trans hf4⟩
          | true =>
            go_wp2_with fail
            refine (hlay_calls HM3.out t2 k t2n (by have := HL.out; omega) hn (by have := HL.out; omega)).mono ?_
            rintro e w4 ⟨rfl, hm4, hf4⟩
            go_wp2_with fail
            go_roundg (T.length - (2 * k + 1 + 1))
            case measure => have := HG.out; omega
            case rel => exact ⟨2 * k + 1 + 1, _, _, by go_num, by omega, by have := HL.out; simpa using this, rfl, MB1.out, fun v hv => (MB2.out v hv).trans (HB1.out v hv), hm4, HF3.out.trans hf4⟩
      · clear gc gf
        have hgd : decide ((2 : Int) * (k : Int) + 1 + 1 < (T.length : Int)) = false := by simp; omega
        have kk0 : ∀ nn : Fam wr, nn.v.cell? ⟨L.b, 0, none⟩ = some (.slice (some ⟨g, 0, none⟩) T.length cap) := Fam.cell c0'
        refine wp_region_fam (by kernel_rfl) (by kernel_rfl) ?_
        repeat (go_big_quiet_step (fail))
        refine wpQuiet_nil ?_
        rintro w2 ⟨⟨w2, hf2⟩, rfl⟩
        have HM2 := hid (HM1.out.no hf2)
        have HF2 := hid (HF1.out.trans (hf2.no (F := L.own)))
        have c2 := hf2.cell_some c0' (fun h => h)
        have ct2x := hf2.cell_some ct1 (fun h => h)
        clear hf2 kk0 c0' ct1
        go_wp2_with fail
        refine (hahead_calls HM2.out t1 th t1n hthn hn).mono ?_
        rintro e w3 ⟨rfl, hf3⟩
        have HM3 := hid (HM2.out.no hf3)
        have HF3 := hid (HF2.out.trans (hf3.no (F := L.own)))
        have c3 := hf3.cell_some c2 (fun h => h)
        have ct3 := hf3.cell_some ct2x (fun h => h)
        clear hf3 c2 ct2x
        cases hd2 : aheadB pr t1 th with
        | false =>
          go_wp2_with fail
          refine (hlay_calls HM3.out th k hthn (by have := HL.out; omega) hn (by have := HL.out; omega)).mono ?_
          rintro e w4 ⟨rfl, hm4, hf4⟩
          go_wp2
          go_end0
          exact ⟨rfl, _, _, hm4, HC1.out, by have := HL.out; simpa using this, HB1.out, HF3.out.trans hf4⟩
        | true =>
          go_wp2_with fail
          refine (hlay_calls HM3.out t1 k t1n (by have := HL.out; omega) hn (by have := HL.out; omega)).mono ?_
          rintro e w4 ⟨rfl, hm4, hf4⟩
          go_wp2_with fail
          go_roundg (T.length - (2 * k + 1))
          case measure => have := HG.out; omega
          case rel => exact ⟨2 * k + 1, _, _, by go_num, by omega, by have := HL.out; simpa using this, rfl, MA1.out, fun v hv => (MA2.out v hv).trans (HB1.out v hv), hm4, HF3.out.trans hf4⟩

end Go.Proofs.YtoepbhacpidcbaaGreatDoor

/- A heap as a bag: what is put into it; walked. -/
set_option linter.unusedVariables false
set_option linter.unusedSimpArgs false
namespace Go.Proofs.YtoepbhacpidcbaaGreatDoor
open Go.RowKit Go.Deep

def setS (S : Nat → Bool) (i : Nat) (d : Bool) : Nat → Bool := fun j => if j = i then d else S j
def Bag (w : World) (L : HLoc) (n : Nat) (S : Nat → Bool) (pr : Nat → Int) : Prop := ∃ T pl, HpMem w L n T pl pr ∧ Con n T pl ∧ ∀ v, v < n → (0 ≤ pl v ↔ S v = true)

theorem Bag.fr {w w' : World} {L : HLoc} {n : Nat} {S : Nat → Bool} {pr : Nat → Int} (h : Bag w L n S pr) {F : Nat → Prop} (hf : Fr F w w') (hF : ∀ j, L.own j → ¬ F j) : Bag w' L n S pr := by
  obtain ⟨T, pl, a, b, c⟩ := h
  exact ⟨T, pl, a.fr hf hF, b, c⟩
theorem Bag.no {w w' : World} {L : HLoc} {n : Nat} {S : Nat → Bool} {pr : Nat → Int} (h : Bag w L n S pr) (hf : Fr No w w') : Bag w' L n S pr := h.fr hf (fun _ _ h => h)
theorem Bag.own_lt {w : World} {L : HLoc} {n : Nat} {S : Nat → Bool} {pr : Nat → Int} (h : Bag w L n S pr) {j : Nat} (hj : L.own j) : j < w.heap.size := by
  obtain ⟨T, pl, a, b, c⟩ := h
  exact a.own_lt hj

theorem HpMem.push {w w1 w2 : World} {L : HLoc} {n : Nat} {T : List Nat} {pl pr : Nat → Int} (h : HpMem w L n T pl pr) {th g cap : Nat} (hf : Fr No w w1)
    (ho : w2.ownsRow L.base 3 1 (.slice (some ⟨g, 0, none⟩) (TI T ++ [(th : Int)]).length cap) (TI T ++ [(th : Int)]).length ((TI T ++ [(th : Int)]).map (Value.int .i64)))
    (hg : w1.grownBy w2 L.t.ownBlock) (hw : L.t.ownBlock = some g ∨ g = w1.heap.size) :
    HpMem (w2.setCell ⟨L.b, 0, none⟩ (.slice (some ⟨g, 0, none⟩) (TI T ++ [(th : Int)]).length cap)) { L with t := .slice (some ⟨g, 0, none⟩) (TI T ++ [(th : Int)]).length cap } n (T ++ [th]) pl pr ∧
    Fr L.own w (w2.setCell ⟨L.b, 0, none⟩ (.slice (some ⟨g, 0, none⟩) (TI T ++ [(th : Int)]).length cap)) ∧ (L.t.ownBlock = some g ∨ w.heap.size ≤ g) := by
  have h1 := h.no hf
  have bb := h.bb
  have hgb : L.base ≤ g := (ho.lt g rfl).1
  have hfr : Fr L.own w w2 := (hf.no (F := L.own)).grown hg (fun k hk => .inl (.inr (.inr (.inr hk))))
  have hnk : ∀ k, k < L.base → some k ≠ L.t.ownBlock := fun k hk e => by
    have := (h.tr.lt k e.symm).1; omega
  have e2 : TI (T ++ [th]) = TI T ++ [(th : Int)] := by simp [TI]
  refine ⟨⟨?_, ?_, ?_, ?_, h.d, h.bb, ?_⟩, hfr.setCell (p := ⟨L.b, 0, none⟩) (.inl (.inl rfl)) _, ?_⟩
  · have : w2.heap[L.b]? = some (.cells #[L.t, .slice (some ⟨L.p, 0, none⟩) n n, .slice (some ⟨L.q, 0, none⟩) n n] 263) := (hg.block L.b (heap_lt h1.h) (hnk _ bb.1)).trans h1.h
    exact heap_set this 0 _
  · rw [e2]
    exact own_frH ho ((Fr.refl (One L.b) w2).set1 0 _) (fun j hj e => by
      have hj : some g = some j := hj
      injection hj with hj
      have e : j = L.b := e
      omega)
  · exact (h1.pb.of_heap (hg.block L.p h1.pb.lt (hnk _ bb.2.1))).setCell_ne (p := ⟨L.b, 0, none⟩) h.d.1 _
  · exact (h1.qb.of_heap (hg.block L.q h1.qb.lt (hnk _ bb.2.2))).setCell_ne (p := ⟨L.b, 0, none⟩) h.d.2.1 _
  · have := h.bs; have := hfr.size
    simp; omega
  · rcases hw with hw | hw
    · exact .inl hw
    · exact .inr (by have := hf.size; omega)

def putP (S : Nat → Bool) (pr : Nat → Int) (th : Nat) (p : Int) : Nat → Int := if S th = true ∧ pr th ≤ p then pr else updI pr th p
def PutR (L : HLoc) (n : Nat) (S : Nat → Bool) (pr : Nat → Int) (th : Nat) (p : Int) (w : World) (e : Ending) (w' : World) : Prop :=
  ∃ (c : Int) (t' : Value), e = .returned (.int .i64 c) ∧ Bag w' { L with t := t' } n (setS S th true) (putP S pr th p) ∧ Fr L.own w w' ∧ ∀ j, t'.ownBlock = some j → L.t.ownBlock = some j ∨ w.heap.size ≤ j

set_option maxRecDepth 100000 in
set_option maxHeartbeats 4000000 in
theorem hput_calls {w : World} {L : HLoc} {n : Nat} {S : Nat → Bool} {pr : Nat → Int} (h : Bag w L n S pr) (th : Nat) (p : Int) (h1 : th < n) (hn : n ≤ 64) :
    Calls Tryz.prog 131 #[.pointer (some ⟨L.b, 0, none⟩), .int .i64 (th : Nat), .int .i64 p] w (PutR L n S pr th p w) := by
  obtain ⟨T, pl, hm, hc, hs⟩ := h
  have hT := hc.len
  obtain ⟨A, cap, ht⟩ := hm.len
  have c0 : w.cell? ⟨L.b, 0, none⟩ = some (.slice A T.length cap) := by rw [cell_of hm.h, ← ht]; rfl
  have c1 : w.cell? ⟨L.b, 1, none⟩ = some (.slice (some ⟨L.p, 0, none⟩) n n) := by rw [cell_of hm.h]; rfl
  have c2 : w.cell? ⟨L.b, 2, none⟩ = some (.slice (some ⟨L.q, 0, none⟩) n n) := by rw [cell_of hm.h]; rfl
  have cp := hm.pb.cell h1
  have cq := hm.qb.cell h1
  have fp := hm.pb.frozen th
  have fq := hm.qb.frozen th
  have fb : ∀ i, w.frozen? ⟨L.b, i, none⟩ = false := fun i => by simp [World.frozen?, hm.h]
  have d := hm.d
  obtain ⟨d1, d2, d3⟩ := d
  have lb := heap_lt hm.h
  have lp := hm.pb.lt
  have lq := hm.qb.lt
  have h1i : (th : Int) < n := by omega
  have hsv := hs th h1
  have HM := hid hm
  have HC := hid hc
  have HS := hid hs
  have HT := hid ht
  clear hm hc hs ht
  cases hin : S th with
  | true =>
    rw [hin] at hsv
    have h0 : 0 ≤ pl th := hsv.2 rfl
    obtain ⟨i, hi⟩ : ∃ i : Nat, pl th = (i : Nat) := ⟨(pl th).toNat, by omega⟩
    have hdn := HC.out.dn th h1
    have hiT : i < T.length := by omega
    have hSS : ∀ v, v < n → (0 ≤ pl v ↔ setS S th true v = true) := fun v hv => by
      unfold setS
      by_cases e : v = th
      · rw [if_pos e, e]; exact ⟨fun _ => rfl, fun _ => h0⟩
      · rw [if_neg e]; exact HS.out v hv
    rw [hi] at cp
    have HSS := hid hSS
    clear hsv h0 hdn hSS hi
    by_cases hle : pr th ≤ p
    · have HLE := hid hle
      go_enter Tryz.func131, Tryz.ntmps131
      go_wp2_with fail
      go_ret
      refine ⟨5, L.t, rfl, ?_, Fr.refl _ _, fun j hj => .inl hj⟩
      unfold putP
      rw [if_pos ⟨hin, HLE.out⟩]
      exact ⟨T, pl, HM.out, HC.out, HSS.out⟩
    · have HLE : Hid (¬ (S th = true ∧ pr th ≤ p)) := hid (fun e => hle e.2)
      go_enter Tryz.func131, Tryz.ntmps131
      go_wp2_with fail
      refine (hup_calls (HM.out.setQ th p) HC.out i hiT hn).mono ?_
      rintro e w1 ⟨rfl, T1, pl1, hm1, hc1, hl1, hs1, hf1⟩
      go_wp2
      go_ret
      refine ⟨0, L.t, rfl, ?_, ((Fr.refl L.own w).setCell (p := ⟨L.q, th, none⟩) (.inl (.inr (.inr (.inl rfl)))) _).trans hf1, fun j hj => .inl hj⟩
      unfold putP
      rw [if_neg HLE.out]
      exact ⟨T1, pl1, hm1, hc1, fun v hv => (hs1 v hv).trans (HSS.out v hv)⟩
  | false =>
    rw [hin] at hsv
    have h0 : ¬ 0 ≤ pl th := fun e => by have := hsv.1 e; cases this
    have hdn := HC.out.dn th h1
    have hm1 : pl th = -1 := by omega
    rw [hm1] at cp
    have HP := hid (HC.out.push h1 (by omega))
    have HM1 := hid hm1
    obtain ⟨l, hl⟩ : ∃ l, TI T = l := ⟨_, rfl⟩
    have hll : T.length = l.length := by rw [← hl, TI_len]
    rw [hll] at c0
    have HT2 : Hid (L.t = .slice A l.length cap) := hid (by rw [← hll]; exact HT.out)
    have HO : Hid (w.ownsRow L.base 3 1 (.slice A l.length cap) l.length (l.map (Value.int .i64))) := hid (by have := HM.out.tr; rw [hl, HT2.out] at this; exact this)
    have hbs := HM.out.bs
    obtain ⟨bb1, bb2, bb3⟩ := HM.out.bb
    have HL := hid hl
    have HLL := hid hll
    have hl64 : l.length ≤ 64 := by omega
    clear hsv h0 hdn hm1 hl hll
    go_enter Tryz.func131, Tryz.ntmps131
    go_wp2_with (at_builtin; refine wpList_push (.tmp 32) (.tmp 34) (.slice A l.length cap) l w.heap.size 1 (th : Nat) ?_ ?_ ?_ ?_ L.base ?_ ?_ ?_ ?_ ?_; rfl; rfl; rfl; rfl; exact own_frH HO.out ((Fr.refl No _).alloc _) (fun _ _ h => h); (simp; omega); exact cell_of (heap_new w _) 0; omega; intro g' cap' w6 hown4 hgrow4 hat4 hlt4; have HO6 := hid hown4; have HG6 := hid hgrow4; have HA6 := hid hat4; have hnk : ∀ k, k < L.base → some k ≠ (Value.slice A l.length cap).ownBlock := (fun k hk e => by have := (HO.out.lt k e.symm).1; omega); have hkb := (hgrow4.block L.b (by simp; omega) (hnk L.b (by omega))).trans (Below.heap_alloc w _ _ lb); have hkp := (hgrow4.block L.p (by simp; omega) (hnk L.p (by omega))).trans (Below.heap_alloc w _ _ lp); have hkq := (hgrow4.block L.q (by simp; omega) (hnk L.q (by omega))).trans (Below.heap_alloc w _ _ lq); have a0 := (World.cell?_of_block (a := ⟨L.b, 0, none⟩) hkb).trans c0; have a1 := (World.cell?_of_block (a := ⟨L.b, 1, none⟩) hkb).trans c1; have a2 := (World.cell?_of_block (a := ⟨L.b, 2, none⟩) hkb).trans c2; have ap := (World.cell?_of_block (a := ⟨L.p, th, none⟩) hkp).trans cp; have aq := (World.cell?_of_block (a := ⟨L.q, th, none⟩) hkq).trans cq; have gp := (World.frozen?_of_block (a := ⟨L.p, th, none⟩) hkp).trans fp; have gq := (World.frozen?_of_block (a := ⟨L.q, th, none⟩) hkq).trans fq; have gb := (World.frozen?_of_block (a := ⟨L.b, 0, none⟩) hkb).trans (fb 0); have sz6 := hgrow4.size; clear hown4 hgrow4 hat4 hkb hkp hkq c0 c1 c2 cp cq fp fq fb hnk)
    have zb : L.b < w6.heap.size := by simp at sz6; omega
    have zp : L.p < w6.heap.size := by simp at sz6; omega
    have zq : L.q < w6.heap.size := by simp at sz6; omega
    clear sz6
    go_region
    go_wp2_with fail
    obtain ⟨P1, P2, P3⟩ := HpMem.push (th := th) (g := g') (cap := cap') HM.out ((Fr.refl No w).alloc (.cells #[.int .i64 (th : Nat)] 3)) (by rw [HL.out]; exact HO6.out) (by rw [HT2.out]; exact HG6.out) (by rw [HT2.out]; exact HA6.out)
    rw [HL.out, show (l ++ [(th : Int)]).length = l.length + 1 by simp] at P1 P2
    have Q1 := ((P1.setP th l.length).setQ th p).no ((Fr.refl No _).drew)
    have hcon : Con n (T ++ [th]) (updI pl th l.length) := by rw [← HLL.out]; exact HP.out
    have hlt5 : l.length < (T ++ [th]).length := by have := HLL.out; simp; omega
    have F1 := ((P2.setCell (p := ⟨L.p, th, none⟩) (.inl (.inr (.inl rfl))) (.int .i64 l.length)).setCell (p := ⟨L.q, th, none⟩) (.inl (.inr (.inr (.inl rfl)))) (.int .i64 p)).drew
    refine (hup_calls Q1 hcon l.length hlt5 hn).mono ?_
    rintro e w7 ⟨rfl, T1, pl1, hm1, hc1, hl1, hs1, hf1⟩
    go_wp2
    go_ret
    refine ⟨0, .slice (some ⟨g', 0, none⟩) (l.length + 1) cap', rfl, ⟨T1, pl1, ?_, hc1, fun v hv => ?_⟩, F1.trans' hf1 (fun i hi hown => ?_), fun j hj => ?_⟩
    · unfold putP
      rw [if_neg (fun e => by rw [hin] at e; cases e.1)]; exact hm1
    · rw [hs1 v hv]
      unfold setS updI
      by_cases e : v = th
      · rw [if_pos e, if_pos e]; exact ⟨fun _ => rfl, fun _ => by omega⟩
      · rw [if_neg e, if_neg e]; exact HS.out v hv
    · rcases hown with e | e | e | e
      · exact .inl e
      · exact .inr (.inl e)
      · exact .inr (.inr (.inl e))
      · have e : some g' = some i := e
        injection e with e
        subst e
        rcases P3 with P3 | P3
        · exact .inr (.inr (.inr P3))
        · omega
    · have hj : some g' = some j := hj
      injection hj with hj
      subst hj
      exact P3

end Go.Proofs.YtoepbhacpidcbaaGreatDoor

/- A new heap; what comes out of one; walked. -/
set_option linter.unusedVariables false
set_option linter.unusedSimpArgs false
namespace Go.Proofs.YtoepbhacpidcbaaGreatDoor
open Go.RowKit Go.Deep

set_option maxRecDepth 100000 in
set_option maxHeartbeats 2000000 in
theorem hpeek_calls {w : World} {L : HLoc} {n : Nat} {T : List Nat} {pl pr : Nat → Int} (h : HpMem w L n T pl pr) (hc : Con n T pl) (hn : n ≤ 64) :
    Calls Tryz.prog 185 #[.pointer (some ⟨L.b, 0, none⟩)] w fun e w' =>
      e = (if T.length = 0 then .returned (.tuple #[.int .i64 0, .int .i64 0, .bool false]) else .returned (.tuple #[.int .i64 (T.getD 0 0 : Nat), .int .i64 (pr (T.getD 0 0)), .bool true])) ∧ Fr No w w' := by
  obtain ⟨A, cap, ht⟩ := h.len
  have c0 : w.cell? ⟨L.b, 0, none⟩ = some (.slice A T.length cap) := by rw [cell_of h.h, ← ht]; rfl
  have lb := heap_lt h.h
  by_cases h0 : T.length = 0
  · rw [if_pos h0]
    rw [h0] at c0
    clear h hc ht h0
    go_enter Tryz.func185, Tryz.ntmps185
    go_wp2_with fail
    refine bodyPost_ret (v := .tuple #[.int .i64 0, .int .i64 0, .bool false]) (by simp [results, Tryz.results185, go_sem]) rfl ⟨rfl, Fr.refl _ _⟩
  · rw [if_neg h0]
    obtain ⟨g, cap2, ht2, _, g2, gc, gf, _, _⟩ := h.tree (by omega)
    have heq := ht.symm.trans ht2
    injection heq with q1 _ q3
    subst q1
    have c2 : w.cell? ⟨L.b, 2, none⟩ = some (.slice (some ⟨L.q, 0, none⟩) n n) := by rw [cell_of h.h]; rfl
    have ct := gc 0 (by omega)
    have h1 := (hc.up 0 (by omega)).1
    obtain ⟨t, htt⟩ : ∃ t, T.getD 0 0 = t := ⟨_, rfl⟩
    rw [htt] at ct h1 ⊢
    have cq := h.qb.cell h1
    have lq := h.qb.lt
    have hT0 : 0 < T.length := by omega
    clear h hc ht ht2 gc gf q3 htt h0
    go_enter Tryz.func185, Tryz.ntmps185
    go_wp2_with fail
    go_region
    go_wp2
    refine bodyPost_ret (v := .tuple #[.int .i64 (t : Nat), .int .i64 (pr t), .bool true]) (by simp [results, Tryz.results185, go_sem]) rfl ⟨rfl, (Fr.refl _ _).drew⟩

theorem own_take {w : World} {base g m cap : Nat} {e : TypeId} {xs : List Value} (h : w.ownsRow base e 1 (.slice (some ⟨g, 0, none⟩) (m + 1) cap) (m + 1) xs) :
    w.ownsRow base e 1 (.slice (some ⟨g, 0, none⟩) m cap) m (xs.take m) := by
  obtain ⟨h1, h2⟩ := h
  refine ⟨by simp; omega, ?_⟩
  rcases h2 with ⟨e0, _⟩ | ⟨g', cap', cur, e0, hb, hg, hn, hm, hs, ht⟩
  · cases e0
  · injection e0 with e1 _ e3
    injection e1 with e1
    injection e1 with e1
    subst e1; subst e3
    refine .inr ⟨g, cap, cur, rfl, hb, hg, by omega, hm, hs, ?_⟩
    rw [← ht, List.take_take, Nat.min_eq_left (by omega), Nat.mul_one]

theorem TI_take (T : List Nat) (m : Nat) : TI (T.take m) = (TI T).take m := by simp [TI, List.map_take]

theorem HpMem.cutT {w : World} {L : HLoc} {n : Nat} {T : List Nat} {pl pr : Nat → Int} (h : HpMem w L n T pl pr) {g cap m : Nat} (ht : L.t = .slice (some ⟨g, 0, none⟩) T.length cap) (hm : T.length = m + 1) :
    HpMem (w.setCell ⟨L.b, 0, none⟩ (.slice (some ⟨g, 0, none⟩) m cap)) { L with t := .slice (some ⟨g, 0, none⟩) m cap } n (T.take m) pl pr := by
  have hg : L.base ≤ g := by have := (h.tr.lt g (by rw [ht]; rfl)).1; exact this
  have bb := h.bb
  have hlen : (TI (T.take m)).length = m := by rw [TI_len]; simp; omega
  refine ⟨heap_set h.h 0 _, ?_, h.pb.setCell_ne (p := ⟨L.b, 0, none⟩) h.d.1 _, h.qb.setCell_ne (p := ⟨L.b, 0, none⟩) h.d.2.1 _, h.d, h.bb, by simpa using h.bs⟩
  have hr := h.tr
  rw [ht, TI_len, hm] at hr
  have h2 := own_take hr
  rw [hlen, TI_take, List.map_take]
  exact own_frH h2 ((Fr.refl (One L.b) w).set1 0 _) (fun j hj e => by
    have hj : some g = some j := hj
    injection hj with hj
    have e : j = L.b := e
    omega)

def PopR (L : HLoc) (n : Nat) (S : Nat → Bool) (pr : Nat → Int) (w : World) (e : Ending) (w' : World) : Prop :=
  ((∀ v, v < n → S v = false) ∧ e = .returned (.tuple #[.int .i64 0, .int .i64 0, .bool false]) ∧ Fr No w w' ∧ Bag w' L n S pr) ∨
  (∃ (v : Nat) (t' : Value), v < n ∧ S v = true ∧ e = .returned (.tuple #[.int .i64 (v : Nat), .int .i64 (pr v), .bool true]) ∧ Bag w' { L with t := t' } n (setS S v false) pr ∧ Fr L.own w w' ∧ ∀ j, t'.ownBlock = some j → L.t.ownBlock = some j)

set_option maxRecDepth 100000 in
set_option maxHeartbeats 4000000 in
theorem hpop_calls {w : World} {L : HLoc} {n : Nat} {S : Nat → Bool} {pr : Nat → Int} (h : Bag w L n S pr) (hn : n ≤ 64) :
    Calls Tryz.prog 132 #[.pointer (some ⟨L.b, 0, none⟩)] w (PopR L n S pr w) := by
  obtain ⟨T, pl, hm, hc, hs⟩ := h
  have hT := hc.len
  have HM := hid hm
  have HC := hid hc
  have HS := hid hs
  clear hm hc hs
  by_cases h0 : T.length = 0
  · have hemp : ∀ v, v < n → S v = false := fun v hv => by
      rcases HC.out.dn v hv with e | e
      · cases hS : S v with
        | false => rfl
        | true => have := (HS.out v hv).2 hS; omega
      · omega
    go_enter Tryz.func132, Tryz.ntmps132
    go_wp2_with fail
    refine (hpeek_calls HM.out HC.out hn).mono ?_
    rw [if_pos h0]
    rintro e w1 ⟨rfl, hf⟩
    go_wp2
    refine bodyPost_ret (v := .tuple #[.int .i64 0, .int .i64 0, .bool false]) (by simp [results, Tryz.results132, go_sem]) rfl (.inl ⟨hemp, rfl, hf, T, pl, HM.out.no hf, HC.out, HS.out⟩)
  · obtain ⟨m, hm⟩ : ∃ m, T.length = m + 1 := ⟨T.length - 1, by omega⟩
    obtain ⟨g, cap, ht, g1, g2, gc, gf, g5, g6⟩ := HM.out.tree (by omega)
    have HT := hid ht
    have c0 : w.cell? ⟨L.b, 0, none⟩ = some (.slice (some ⟨g, 0, none⟩) (m + 1) cap) := by rw [cell_of HM.out.h, ← hm, ← ht]; rfl
    have ctm := gc m (by omega)
    have hum := (HC.out.up m (by omega)).1
    have hu0 := HC.out.up 0 (by omega)
    obtain ⟨tm, htm⟩ : ∃ tm, T.getD m 0 = tm := ⟨_, rfl⟩
    obtain ⟨t0, ht0⟩ : ∃ t0, T.getD 0 0 = t0 := ⟨_, rfl⟩
    have hpop := HC.out.pop hm
    rw [htm, ht0] at hpop
    rw [htm] at ctm hum
    rw [ht0] at hu0
    have h0n := hu0.1
    have hS0 : S t0 = true := (HS.out t0 h0n).1 (by rw [hu0.2]; exact Int.le_refl _)
    have HP1 := hid hpop.1
    have HP2 := hid hpop.2
    have HM0 := hid hm
    have hm64 : m + 1 ≤ 64 := by omega
    have hmc : m + 1 ≤ cap := by omega
    clear hpop hu0 ht gc gf htm
    go_enter Tryz.func132, Tryz.ntmps132
    go_wp2_with fail
    refine (hpeek_calls HM.out HC.out hn).mono ?_
    rw [if_neg h0, ht0]
    clear h0 ht0 hm hT g5
    rintro e w1 ⟨rfl, hf⟩
    have HM1 := hid (HM.out.no hf)
    have HF1 := hid (hf.no (F := L.own))
    have d0 := hf.cell_some c0 (fun h => h)
    have dm := hf.cell_some ctm (fun h => h)
    clear hf c0 ctm
    go_wp2_with fail
    refine (hlay_calls HM1.out tm 0 hum (by have := HM0.out; omega) hn (by have := HM0.out; omega)).mono ?_
    rintro e w2 ⟨rfl, hm2, hf2⟩
    have HM2 := hid hm2
    have HF2 := hid (HF1.out.trans hf2)
    have b0 : w2.cell? ⟨L.b, 0, none⟩ = some (.slice (some ⟨g, 0, none⟩) (m + 1) cap) := by rw [cell_of hm2.h, HT.out, HM0.out]; rfl
    have b1 : w2.cell? ⟨L.b, 1, none⟩ = some (.slice (some ⟨L.p, 0, none⟩) n n) := by rw [cell_of hm2.h]; rfl
    have bp := hm2.pb.cell h0n
    have fp := hm2.pb.frozen t0
    have fb : w2.frozen? ⟨L.b, 0, none⟩ = false := by simp [World.frozen?, hm2.h]
    have d1 := hm2.d.1
    have hlen : (T.set 0 tm).length = m + 1 := by rw [List.length_set]; exact HM0.out
    have HM3 := hid ((hm2.cutT (g := g) (cap := cap) (m := m) (by rw [HT.out, hlen, HM0.out]) hlen).setP t0 (-1))
    have hS2 : ∀ v, v < n → (0 ≤ updI (updI pl tm 0) t0 (-1) v ↔ setS S t0 false v = true) := fun v hv => by
      rw [HP2.out v hv]
      unfold setS
      by_cases e : v = t0
      · rw [if_pos e]; exact ⟨fun h => absurd e h.1, fun h => by cases h⟩
      · rw [if_neg e, ← HS.out v hv]; exact ⟨fun h => h.2, fun h => ⟨e, h⟩⟩
    have HS2 := hid hS2
    have hl5 : ((T.set 0 tm).take m).length = m := by simp; have := HM0.out; omega
    have HF3 := hid ((HF2.out.setCell (p := ⟨L.b, 0, none⟩) (.inl (.inl rfl)) (.slice (some ⟨g, 0, none⟩) m cap)).setCell (p := ⟨L.p, t0, none⟩) (.inl (.inr (.inl rfl))) (.int .i64 (-1)))
    have HL5 := hid hl5
    clear hm2 hf2 d0 dm hlen hS2 hl5
    by_cases hm0 : m = 0
    · subst hm0
      go_wp2
      exact bodyPost_ret (v := .tuple #[.int .i64 (t0 : Nat), .int .i64 (pr t0), .bool true]) (by simp [results, Tryz.results132, go_sem]) rfl
        (.inr ⟨t0, .slice (some ⟨g, 0, none⟩) 0 cap, h0n, hS0, rfl, ⟨_, _, HM3.out, HP1.out, HS2.out⟩, HF3.out, fun j hj => by rw [HT.out]; exact hj⟩)
    · have hm1 : 0 < m := by omega
      go_wp2_with fail
      refine (hdown_calls HM3.out HP1.out 0 (by rw [HL5.out]; exact hm1) hn).mono ?_
      rintro e w4 ⟨rfl, T1, pl1, hm4, hc4, hl4, hs4, hf4⟩
      go_wp2
      exact bodyPost_ret (v := .tuple #[.int .i64 (t0 : Nat), .int .i64 (pr t0), .bool true]) (by simp [results, Tryz.results132, go_sem]) rfl
        (.inr ⟨t0, .slice (some ⟨g, 0, none⟩) m cap, h0n, hS0, rfl, ⟨_, _, hm4, hc4, fun v hv => (hs4 v hv).trans (HS2.out v hv)⟩, HF3.out.trans' hf4 (fun i hi hown => by
          rcases hown with e | e | e | e
          · exact .inl e
          · exact .inr (.inl e)
          · exact .inr (.inr (.inl e))
          · exact .inr (.inr (.inr (by rw [HT.out]; exact e)))), fun j hj => by rw [HT.out]; exact hj⟩)

end Go.Proofs.YtoepbhacpidcbaaGreatDoor

/- A new heap; walked. -/
set_option linter.unusedVariables false
set_option linter.unusedSimpArgs false
namespace Go.Proofs.YtoepbhacpidcbaaGreatDoor
open Go.RowKit Go.Deep

set_option maxRecDepth 100000 in
set_option maxHeartbeats 4000000 in
theorem hnew_calls (n : Nat) (h1 : 1 ≤ n) (hn : n ≤ 64) (w : World) :
    Calls Tryz.prog 130 #[.int .i64 (n : Nat)] w fun e w' => ∃ L : HLoc, e = .returned (.tuple #[.pointer (some ⟨L.b, 0, none⟩), .int .i64 0]) ∧ Bag w' L n (fun _ => false) (fun _ => 0) ∧ Fr No w w' ∧ ∀ j, L.own j → w.heap.size ≤ j := by
  have hmk := fun w => run_make_row' (P := Tryz.prog) 34 3 (.int .i64 0) 8 Tryz.underlying34 info_int rfl .i64 .i64 n (by omega) (by omega) w
  have hn1 : (0 : Int) ≤ n := by omega
  have hn2 : (n : Int) ≤ 64 := by omega
  go_enter Tryz.func130, Tryz.ntmps130
  go_wp2_with fail
  go_region
  · have hP0 := Blk.made w n (.int .i64 0) 3
    have hQ0 := Blk.made (w.alloc (.cells (madeCells #[.int .i64 0] n) 3)) n (.int .i64 0) 3
    rw [World.size_alloc] at hQ0
    obtain ⟨W, hW⟩ : ∃ W, (((w.alloc (.cells (madeCells #[.int .i64 0] n) 3)).alloc (.cells (madeCells #[.int .i64 0] n) 3)).alloc (.cells #[.slice none 0 0, .slice (some ⟨w.heap.size, 0, none⟩) n n, .slice (some ⟨w.heap.size + 1, 0, none⟩) n n] 263)).drew = W := ⟨_, rfl⟩
    have hB : W.heap[w.heap.size + 1 + 1]? = some (.cells #[.slice none 0 0, .slice (some ⟨w.heap.size, 0, none⟩) n n, .slice (some ⟨w.heap.size + 1, 0, none⟩) n n] 263) := by
      rw [← hW]
      have := heap_new ((w.alloc (.cells (madeCells #[.int .i64 0] n) 3)).alloc (.cells (madeCells #[.int .i64 0] n) 3)) (.cells #[.slice none 0 0, .slice (some ⟨w.heap.size, 0, none⟩) n n, .slice (some ⟨w.heap.size + 1, 0, none⟩) n n] 263)
      rw [World.size_alloc, World.size_alloc] at this
      exact this
    have hP1 : Blk W w.heap.size n 3 (fun _ => .int .i64 0) := by rw [← hW]; exact ((hP0.alloc _).alloc _).drew
    have hQ1 : Blk W (w.heap.size + 1) n 3 (fun _ => .int .i64 0) := by rw [← hW]; exact (hQ0.alloc _).drew
    have hf : Fr No w W := by rw [← hW]; exact ((((Fr.refl No w).alloc _).alloc _).alloc _).drew
    rw [hW]
    have hsz := hf.size
    have hBl := heap_lt hB
    clear hP0 hQ0 hW hmk
    obtain ⟨B, eB⟩ : ∃ B, w.heap.size + 1 + 1 = B := ⟨_, rfl⟩
    obtain ⟨S1, eS1⟩ : ∃ S1, w.heap.size + 1 = S1 := ⟨_, rfl⟩
    obtain ⟨S0, eS0⟩ : ∃ S0, w.heap.size = S0 := ⟨_, rfl⟩
    rw [eB] at hB hBl ⊢
    rw [eS1] at hB hQ1 ⊢
    rw [eS0] at hB hP1 ⊢
    have k1 : S0 < B := by omega
    have k2 : S1 < B := by omega
    have k3 : S0 ≠ S1 := by omega
    have kz : w.heap.size ≤ S0 ∧ w.heap.size ≤ S1 ∧ w.heap.size ≤ B := by omega
    have KZ := hid kz
    have b1 := cell_of hB 1
    have b1 : W.cell? ⟨B, 1, none⟩ = some (.slice (some ⟨S0, 0, none⟩) n n) := by rw [cell_of hB]; rfl
    have HB := hid hB
    have HP := hid hP1
    have HQ := hid hQ1
    have HF := hid hf
    clear hB hP1 hQ1 hf kz eB eS1 eS0 hsz
    go_wp2_with fail
    go_loopg [23] n (fun g p wr => ∃ k : Nat, p = .int .i64 k ∧ k ≤ n ∧ g = n - k ∧ wr.heap[B]? = some (.cells #[.slice none 0 0, .slice (some ⟨S0, 0, none⟩) n n, .slice (some ⟨S1, 0, none⟩) n n] 263) ∧
      Blk wr S0 n 3 (fun i => .int .i64 (if i < k then -1 else 0)) ∧ Blk wr S1 n 3 (fun _ => .int .i64 0) ∧ Fr No w wr)
    case atStart => exact ⟨0, rfl, by omega, rfl, HB.out, (HP.out).congr fun i hi => by simp, HQ.out, HF.out⟩
    case round =>
      obtain ⟨k, rfl, hk, hg, hb, hp, hq, hf⟩ := hrel
      have HG := hid hg
      have HB1 := hid hb
      have HP1 := hid hp
      have HQ1 := hid hq
      have HF1 := hid hf
      clear hg hb hp hq hf b1
      by_cases hlt : k < n
      · have hlt2 : (k : Int) < n := by omega
        have b1 : wr.cell? ⟨B, 1, none⟩ = some (.slice (some ⟨S0, 0, none⟩) n n) := by rw [cell_of HB1.out]; rfl
        have bp := HP1.out.cell hlt
        have fp := HP1.out.frozen k
        rw [if_neg (Nat.lt_irrefl k)] at bp
        go_wp2
        go_roundg (n - (k + 1))
        case measure => have := HG.out; omega
        case rel =>
          refine ⟨k + 1, by go_num, hlt, rfl, ?_, (HP1.out.setCell k _).congr fun i hi => ?_, HQ1.out.setCell_ne (p := ⟨S0, k, none⟩) (show S0 ≠ S1 by omega) _, HF1.out.setCell (p := ⟨S0, k, none⟩) (.inr (by have := KZ.out; show _ ≤ S0; omega)) _⟩
          · rw [Below.heap_setCell _ _ _ _ (show B ≠ S0 by omega)]; exact HB1.out
          · unfold upd
            by_cases e : i = k
            · rw [if_pos e, if_pos (by omega)]
            · rw [if_neg e]
              show (Value.int IntKind.i64 (if i < k then (-1 : Int) else 0)) = Value.int IntKind.i64 (if i < k + 1 then (-1 : Int) else 0)
              by_cases e2 : i < k
              · rw [if_pos e2, if_pos (by omega)]
              · rw [if_neg e2, if_neg (by omega)]
      · have e : k = n := by omega
        subst e
        go_wp2
        go_ret2
        refine ⟨⟨B, .slice none 0 0, S0, S1, B + 1⟩, rfl, ⟨[], fun _ => -1, ⟨HB1.out, World.ownsRow_nil wr _ _ _, (HP1.out).congr fun i hi => by rw [if_pos hi], HQ1.out, ⟨(by show B ≠ S0; omega), (by show B ≠ S1; omega), (by show S0 ≠ S1; omega)⟩, ⟨(by show B < B + 1; omega), (by show S0 < B + 1; omega), (by show S1 < B + 1; omega)⟩, heap_lt HB1.out⟩, Con.nil _, fun v hv => by simp⟩, HF1.out, fun j hj => ?_⟩
        have := KZ.out
        rcases hj with e | e | e | e
        · have e : j = B := e
          omega
        · have e : j = S0 := e
          omega
        · have e : j = S1 := e
          omega
        · cases e
  · have hP0 := Blk.made w n (.int .i64 0) 3
    have hQ0 := Blk.made (w.alloc (.cells (madeCells #[.int .i64 0] n) 3)) n (.int .i64 0) 3
    rw [World.size_alloc] at hQ0
    obtain ⟨W, hW⟩ : ∃ W, (((w.alloc (.cells (madeCells #[.int .i64 0] n) 3)).alloc (.cells (madeCells #[.int .i64 0] n) 3)).alloc (.cells #[.slice none 0 0, .slice (some ⟨w.heap.size + 1, 0, none⟩) n n, .slice (some ⟨w.heap.size, 0, none⟩) n n] 263)).drew = W := ⟨_, rfl⟩
    have hB : W.heap[w.heap.size + 1 + 1]? = some (.cells #[.slice none 0 0, .slice (some ⟨w.heap.size + 1, 0, none⟩) n n, .slice (some ⟨w.heap.size, 0, none⟩) n n] 263) := by
      rw [← hW]
      have := heap_new ((w.alloc (.cells (madeCells #[.int .i64 0] n) 3)).alloc (.cells (madeCells #[.int .i64 0] n) 3)) (.cells #[.slice none 0 0, .slice (some ⟨w.heap.size + 1, 0, none⟩) n n, .slice (some ⟨w.heap.size, 0, none⟩) n n] 263)
      rw [World.size_alloc, World.size_alloc] at this
      exact this
    have hP1 : Blk W w.heap.size n 3 (fun _ => .int .i64 0) := by rw [← hW]; exact ((hP0.alloc _).alloc _).drew
    have hQ1 : Blk W (w.heap.size + 1) n 3 (fun _ => .int .i64 0) := by rw [← hW]; exact (hQ0.alloc _).drew
    have hf : Fr No w W := by rw [← hW]; exact ((((Fr.refl No w).alloc _).alloc _).alloc _).drew
    rw [hW]
    have hsz := hf.size
    have hBl := heap_lt hB
    clear hP0 hQ0 hW hmk
    obtain ⟨B, eB⟩ : ∃ B, w.heap.size + 1 + 1 = B := ⟨_, rfl⟩
    obtain ⟨S1, eS1⟩ : ∃ S1, w.heap.size + 1 = S1 := ⟨_, rfl⟩
    obtain ⟨S0, eS0⟩ : ∃ S0, w.heap.size = S0 := ⟨_, rfl⟩
    rw [eB] at hB hBl ⊢
    rw [eS1] at hB hQ1 ⊢
    rw [eS0] at hB hP1 ⊢
    have k1 : S0 < B := by omega
    have k2 : S1 < B := by omega
    have k3 : S0 ≠ S1 := by omega
    have kz : w.heap.size ≤ S0 ∧ w.heap.size ≤ S1 ∧ w.heap.size ≤ B := by omega
    have KZ := hid kz
    have b1 := cell_of hB 1
    have b1 : W.cell? ⟨B, 1, none⟩ = some (.slice (some ⟨S1, 0, none⟩) n n) := by rw [cell_of hB]; rfl
    have HB := hid hB
    have HP := hid hP1
    have HQ := hid hQ1
    have HF := hid hf
    clear hB hP1 hQ1 hf kz eB eS1 eS0 hsz
    go_wp2_with fail
    go_loopg [23] n (fun g p wr => ∃ k : Nat, p = .int .i64 k ∧ k ≤ n ∧ g = n - k ∧ wr.heap[B]? = some (.cells #[.slice none 0 0, .slice (some ⟨S1, 0, none⟩) n n, .slice (some ⟨S0, 0, none⟩) n n] 263) ∧
      Blk wr S1 n 3 (fun i => .int .i64 (if i < k then -1 else 0)) ∧ Blk wr S0 n 3 (fun _ => .int .i64 0) ∧ Fr No w wr)
    case atStart => exact ⟨0, rfl, by omega, rfl, HB.out, (HQ.out).congr fun i hi => by simp, HP.out, HF.out⟩
    case round =>
      obtain ⟨k, rfl, hk, hg, hb, hp, hq, hf⟩ := hrel
      have HG := hid hg
      have HB1 := hid hb
      have HP1 := hid hp
      have HQ1 := hid hq
      have HF1 := hid hf
      clear hg hb hp hq hf b1
      by_cases hlt : k < n
      · have hlt2 : (k : Int) < n := by omega
        have b1 : wr.cell? ⟨B, 1, none⟩ = some (.slice (some ⟨S1, 0, none⟩) n n) := by rw [cell_of HB1.out]; rfl
        have bp := HP1.out.cell hlt
        have fp := HP1.out.frozen k
        rw [if_neg (Nat.lt_irrefl k)] at bp
        go_wp2
        go_roundg (n - (k + 1))
        case measure => have := HG.out; omega
        case rel =>
          refine ⟨k + 1, by go_num, hlt, rfl, ?_, (HP1.out.setCell k _).congr fun i hi => ?_, HQ1.out.setCell_ne (p := ⟨S1, k, none⟩) (show S1 ≠ S0 by omega) _, HF1.out.setCell (p := ⟨S1, k, none⟩) (.inr (by have := KZ.out; show _ ≤ S1; omega)) _⟩
          · rw [Below.heap_setCell _ _ _ _ (show B ≠ S1 by omega)]; exact HB1.out
          · unfold upd
            by_cases e : i = k
            · rw [if_pos e, if_pos (by omega)]
            · rw [if_neg e]
              show (Value.int IntKind.i64 (if i < k then (-1 : Int) else 0)) = Value.int IntKind.i64 (if i < k + 1 then (-1 : Int) else 0)
              by_cases e2 : i < k
              · rw [if_pos e2, if_pos (by omega)]
              · rw [if_neg e2, if_neg (by omega)]
      · have e : k = n := by omega
        subst e
        go_wp2
        go_ret2
        refine ⟨⟨B, .slice none 0 0, S1, S0, B + 1⟩, rfl, ⟨[], fun _ => -1, ⟨HB1.out, World.ownsRow_nil wr _ _ _, (HP1.out).congr fun i hi => by rw [if_pos hi], HQ1.out, ⟨(by show B ≠ S1; omega), (by show B ≠ S0; omega), (by show S1 ≠ S0; omega)⟩, ⟨(by show B < B + 1; omega), (by show S1 < B + 1; omega), (by show S0 < B + 1; omega)⟩, heap_lt HB1.out⟩, Con.nil _, fun v hv => by simp⟩, HF1.out, fun j hj => ?_⟩
        have := KZ.out
        rcases hj with e | e | e | e
        · have e : j = B := e
          omega
        · have e : j = S1 := e
          omega
        · have e : j = S0 := e
          omega
        · cases e

end Go.Proofs.YtoepbhacpidcbaaGreatDoor
