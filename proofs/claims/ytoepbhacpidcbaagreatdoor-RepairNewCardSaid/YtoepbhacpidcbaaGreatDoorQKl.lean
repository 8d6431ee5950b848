/- build.Between: how far it is between two by way of lower ones; walked. -/
import Derived.Deep.CutRange
import Derived.Deep.RegionHeld3
import Derived.Test.YtoepbhacpidcbaaGreatDoorQBase
import Derived.Test.YtoepbhacpidcbaaGreatDoorQIdx
import Derived.Test.YtoepbhacpidcbaaGreatDoorQPerm
import Derived.Test.YtoepbhacpidcbaaGreatDoorQIdxB
import Derived.Test.YtoepbhacpidcbaaGreatDoorQRef
import Derived.Test.YtoepbhacpidcbaaGreatDoorQUnref
import Derived.Test.YtoepbhacpidcbaaGreatDoorQItr
import Derived.Test.YtoepbhacpidcbaaGreatDoorQUnE
import Derived.Test.YtoepbhacpidcbaaGreatDoorQDst
import Derived.Test.YtoepbhacpidcbaaGreatDoorQLnk
import Derived.Test.YtoepbhacpidcbaaGreatDoorQLks
import Derived.Test.YtoepbhacpidcbaaGreatDoorQMid
import Derived.Test.YtoepbhacpidcbaaGreatDoorQBig
import Derived.Test.YtoepbhacpidcbaaGreatDoorQCp2
import Derived.Test.YtoepbhacpidcbaaGreatDoorQGoes
import Derived.Test.YtoepbhacpidcbaaGreatDoorQGOps
import Derived.Test.YtoepbhacpidcbaaGreatDoorQGB
import Derived.Test.YtoepbhacpidcbaaGreatDoorQG8
import Derived.Test.YtoepbhacpidcbaaGreatDoorQWh
import Derived.Test.YtoepbhacpidcbaaGreatDoorQDMov
import Derived.Test.YtoepbhacpidcbaaGreatDoorQWk
import Derived.Test.YtoepbhacpidcbaaGreatDoorQHpK
import Derived.Test.YtoepbhacpidcbaaGreatDoorQSqO
import Derived.Test.YtoepbhacpidcbaaGreatDoorQRBt
import Derived.Test.YtoepbhacpidcbaaGreatDoorQWhl

set_option linter.unusedVariables false
set_option linter.unusedSimpArgs false
namespace Go.Proofs.YtoepbhacpidcbaaGreatDoor
open Go.RowKit Go.Shelf Go.Deep

attribute [local go_sem] Oper.semAt_some

def Ix.below (x : Ix) (u v z : Nat) : Bool := decide (x.rk z < min (x.rk u) (x.rk v))
/-- Between two rounds: the box of the least, the marks. -/
structure BtM (w5 : World) (B14 n0 : Nat) (ds : List Nat) (acc : Int) (W : World) : Prop where
  f : Fr (One B14) w5 W
  c : W.cell? ⟨B14, 0, none⟩ = some (.int .i64 acc)
  z : W.frozen? ⟨B14, 0, none⟩ = false
  m : Marks n0 ds W
theorem BtM.no {w5 : World} {B14 n0 : Nat} {ds : List Nat} {acc : Int} {W W' : World} (h : BtM w5 B14 n0 ds acc W) (hf : Fr No W W') : BtM w5 B14 n0 ds acc W' :=
  ⟨h.f.trans hf.no, hf.cell_some h.c (fun h => h), (hf.frozen (p := ⟨B14, 0, none⟩) (cell_lt h.c) (fun h => h)).trans h.z, h.m.no hf⟩
theorem BtM.grown {w5 : World} {B14 n0 N : Nat} {ds : List Nat} {acc : Int} {A B : World} (h : BtM w5 B14 n0 ds acc A) (hN : ∀ x ∈ ds, x < N) (h5 : w5.heap.size ≤ N) {row : Option Nat} (hg : A.grownBy B row) (hr : ∀ r, row = some r → N ≤ r ∧ ∃ o : Obj, A.heap[r]? = some o ∧ o.isCells = false) : BtM w5 B14 n0 ds acc B :=
  ⟨h.f.grown hg (fun k e => .inr (by have := (hr k e).1; omega)), cell_kept h.c hg (fun r e => (hr r e).2), (frozen_kept h.c hg (fun r e => (hr r e).2)).trans h.z, h.m.grown hN hg (fun r e => (hr r e).1)⟩
theorem BtM.set {w5 : World} {B14 n0 : Nat} {ds : List Nat} {acc : Int} {W : World} (h : BtM w5 B14 n0 ds acc W) (x : Int) : BtM w5 B14 n0 ds x (W.setCell ⟨B14, 0, none⟩ (.int .i64 x)) :=
  ⟨h.f.set1 0 _, World.cell?_setCell_same' _ _ _ (by rw [h.c]; rfl), by rw [World.frozen?_setCell]; exact h.z, h.m.fr ((Fr.refl (One B14) W).set1 0 _) (fun k o (e : k = B14) ho => cell_is_cells h.c (by rw [e] at ho; exact ho))⟩

end Go.Proofs.YtoepbhacpidcbaaGreatDoor
/- The build law's check that its parts are awake; walked. -/
set_option linter.unusedVariables false
set_option linter.unusedSimpArgs false
namespace Go.Proofs.YtoepbhacpidcbaaGreatDoor
open Go.RowKit Go.Shelf Go.Deep
attribute [local go_sem high] run_eql_en run_neq_en

def a6g : Gr := ((Gr.zero 3 4).ins 7 ⟨((0 : Nat) : Int), ((1 : Nat) : Int), 2, false⟩).ins 8 ⟨((1 : Nat) : Int), ((2 : Nat) : Int), 3, false⟩
theorem a6_wt : a6g.Wt := by
  intro i hi h
  have : i = 7 ∨ i = 8 := by
    by_cases h8 : i = 8
    · exact .inr h8
    · by_cases h7 : i = 7
      · exact .inl h7
      · have : a6g.tk i = false := by
          show (if i = 8 then true else if i = 7 then true else false) = false
          rw [if_neg h8, if_neg h7]
        rw [this] at h; cases h
  rcases this with rfl | rfl <;> decide
theorem a6_c0 : (Gr.zero 3 4).cnt < (Gr.zero 3 4).most := by decide +kernel
theorem a6_c1 : ((Gr.zero 3 4).ins 7 ⟨((0 : Nat) : Int), ((1 : Nat) : Int), 2, false⟩).cnt < ((Gr.zero 3 4).ins 7 ⟨((0 : Nat) : Int), ((1 : Nat) : Int), 2, false⟩).most := by decide +kernel

end Go.Proofs.YtoepbhacpidcbaaGreatDoor
/- A keeper all of which was dirty: what its steps tell; a keeper whose index is whole; plain. -/
set_option linter.unusedVariables false
set_option linter.unusedSimpArgs false
namespace Go.Proofs.YtoepbhacpidcbaaGreatDoor
open Go.RowKit Go.Deep

theorem sumN_nil {f : Nat → Nat} : ∀ n, (∀ i, i < n → f i = 0) → sumN f n = 0
  | 0, _ => rfl
  | n + 1, h => by show sumN f n + f n = 0; rw [sumN_nil n (fun i hi => h i (by omega)), h n (by omega)]
/-- All from the i-th vertex on is dirty, and has no entries yet. -/
structure Frsh (K : Kp) (i : Nat) : Prop where
  d : ∀ z, K.d z = decide (z < K.x.n ∧ i ≤ K.x.rk z)
  no : ∀ a b : Nat, a < K.x.n → b < K.x.n → a ≠ b → i ≤ min (K.x.rk a) (K.x.rk b) → K.x.ent a b = En.none
theorem Frsh.fl {K : Kp} {i : Nat} (h : Frsh K i) (hok : K.Ok) (hi : i ≤ K.x.n) : K.fl = i := by
  rcases Nat.lt_or_ge i K.x.n with hlt | hge
  · refine flo_uniq (p := fun r => K.d (K.x.by_ r)) hlt ?_ (fun r hr => ?_)
    · have hb := hok.ok.by_ i hlt
      show K.d (K.x.by_ i) = true
      rw [h.d, decide_eq_true_eq]; omega
    · have hb := hok.ok.by_ r (by omega)
      show K.d (K.x.by_ r) = false
      rw [h.d, decide_eq_false_iff_not]; omega
  · have e : i = K.x.n := by omega
    subst e
    refine flo_none (p := fun r => K.d (K.x.by_ r)) (fun r hr => ?_)
    have hb := hok.ok.by_ r hr
    show K.d (K.x.by_ r) = false
    rw [h.d, decide_eq_false_iff_not]; omega
theorem Frsh.v {K : Kp} {i : Nat} (h : Frsh K i) (hok : K.Ok) (hi : i < K.x.n) : K.v = K.x.by_ i ∧ K.v < K.x.n ∧ K.x.rk K.v = i := by
  have e : K.v = K.x.by_ i := by unfold Kp.v; rw [h.fl hok (by omega)]
  have hb := hok.ok.by_ i hi
  exact ⟨e, by rw [e]; exact hb.1, by rw [e]; exact hb.2⟩
theorem Frsh.work {K : Kp} {i : Nat} (h : Frsh K i) (hok : K.Ok) {G : Gr} (hw : G.Wt) (hi : i < K.x.n) : (K.work G).w = 0 ∧ (K.work G).t = 0 ∧ ∀ z, (K.work G).m z = false := by
  obtain ⟨_, hv, hr⟩ := h.v hok hi
  have key : ∀ w, w < K.x.n → K.x.rk K.v < K.x.rk w → K.x.ent K.v w = En.none ∧ K.x.ent w K.v = En.none := fun w hwn hlt =>
    ⟨h.no _ _ hv hwn (fun e => by rw [e] at hlt; omega) (by omega), h.no _ _ hwn hv (fun e => by rw [e] at hlt; omega) (by omega)⟩
  refine ⟨sumN_nil _ fun w hwn => ?_, sumN_nil _ fun w hwn => ?_, fun z => ?_⟩
  · unfold Ix.tal
    split
    · rename_i hlt
      rw [(key w hwn hlt).1, (key w hwn hlt).2]
      unfold qWent
      rw [if_neg (fun hh => hh.2.1 rfl), if_neg (fun hh => hh.2.1 rfl)]
    · rfl
  · unfold Ix.tal
    split
    · rename_i hlt
      rw [(key w hwn hlt).1, (key w hwn hlt).2]
      unfold qTurn
      rw [if_neg (fun hh => hh.2.1 rfl), if_neg (fun hh => hh.2.1 rfl)]
    · rfl
  · show (K.mvB G z && !K.d1 z) = false
    by_cases hm : K.mv G z
    · obtain ⟨h1, h2⟩ := hok.mv_up hw hm
      have : K.d1 z = true := by
        unfold Kp.d1
        rw [h.d, Bool.and_eq_true, decide_eq_true_eq, Bool.not_eq_true', decide_eq_false_iff_not]
        exact ⟨⟨h1, by omega⟩, hok.mv_ne hw hm⟩
      rw [this]; simp
    · have : K.mvB G z = false := by rw [← Bool.not_eq_true, K.mvB_iff]; exact hm
      rw [this]; rfl
theorem Frsh.step {K : Kp} {i : Nat} (h : Frsh K i) (hok : K.Ok) {G : Gr} (hw : G.Wt) (hi : i < K.x.n) : Frsh (K.step G) (i + 1) := by
  obtain ⟨_, hv, hr⟩ := h.v hok hi
  refine ⟨fun z => ?_, fun a b ha hb hne hm => ?_⟩
  · show (K.d1 z || K.mvB G z) = decide (z < K.x.n ∧ i + 1 ≤ K.x.rk z)
    rw [Bool.eq_iff_iff, Bool.or_eq_true, K.mvB_iff, decide_eq_true_eq]
    unfold Kp.d1
    rw [h.d, Bool.and_eq_true, decide_eq_true_eq, Bool.not_eq_true', decide_eq_false_iff_not]
    constructor
    · rintro (⟨⟨h1, h2⟩, h3⟩ | hm)
      · refine ⟨h1, ?_⟩
        have : K.x.rk z ≠ i := fun e => h3 (by rw [← (hok.ok.rk z h1).2, ← (hok.ok.rk K.v hv).2, e, hr])
        omega
      · obtain ⟨h1, h2⟩ := hok.mv_up hw hm
        exact ⟨h1, by omega⟩
    · rintro ⟨h1, h2⟩
      exact .inl ⟨⟨h1, by omega⟩, fun e => by rw [e] at h2; omega⟩
  · have hm : i + 1 ≤ min (K.x.rk a) (K.x.rk b) := hm
    have hl : K.x.low (a : Nat) (b : Nat) ≠ (K.v : Nat) := fun e => by have := (Ix.low_is e).2.2.2.1; omega
    show (K.x.part G K.v _).ent a b = En.none
    rw [Ix.part_ent _ _ _ _ hl]
    exact h.no a b ha hb hne (by omega)
theorem Frsh.new {n : Nat} (f : Nat → Int) (g : Nat → Nat) : Frsh ⟨Ix.new n f g, fun z => decide (z < n)⟩ 0 :=
  ⟨fun z => by show decide (z < n) = decide (z < n ∧ 0 ≤ _); simp, fun a b _ _ _ _ => rfl⟩
theorem Frsh.inv {K : Kp} (h : Frsh K 0) (G : Gr) : K.Inv G := fun a b z hl hz => by
  rw [h.d, decide_eq_false_iff_not] at hz
  have := (Ix.low_is hl).2.2.2.2
  exact absurd ⟨(by rcases this with e | e <;> (rw [e]; first | exact (Ix.low_is hl).1 | exact (Ix.low_is hl).2.1)), Nat.zero_le _⟩ hz
/-- So many steps. -/
theorem Frsh.run {G : Gr} (hw : G.Wt) : ∀ (m : Nat) {K : Kp} {i : Nat}, Frsh K i → K.Ok → i + m ≤ K.x.n → Frsh (Kp.run G m K) (i + m) ∧ (Kp.wks G m K).length = m ∧ ∀ k, k ∈ Kp.wks G m K → k.w = 0 ∧ k.t = 0 ∧ ∀ z, k.m z = false
  | 0, K, i, h, hok, hi => ⟨h, rfl, fun k hk => by cases hk⟩
  | m + 1, K, i, h, hok, hi => by
    have hf : K.fl < K.x.n := by rw [h.fl hok (by omega)]; omega
    rw [Kp.run_succ, if_pos hf, Kp.wks_succ, if_pos hf]
    obtain ⟨h1, h2, h3⟩ := Frsh.run hw m (h.step hok hw (by omega)) (hok.step hw) (show i + 1 + m ≤ K.x.n by omega)
    refine ⟨by rw [show i + (m + 1) = i + 1 + m by omega]; exact h1, by simp [h2], fun k hk => ?_⟩
    rcases List.mem_cons.1 hk with rfl | hk
    · exact h.work hok hw (by omega)
    · exact h3 k hk

def a9K : Kp := ⟨Ix.new 3 awf awg, fun z => decide (z < 3)⟩
theorem a9_ok : a9K.Ok := ⟨Ix.new_ok (by omega) aw_perm aw_g1 aw_g2, Ix.Fit.new 3 awf awg, fun z hz => of_decide_eq_true hz⟩
theorem a9_f0 : Frsh a9K 0 := Frsh.new awf awg
def a9x1 : Ix := a9K.x.redo a6g 1
theorem a9_c0 : sumN (a9K.x.tal a6g 1 qCame) 3 = 2 := by decide +kernel
theorem a9_c1 : sumN (a9x1.tal a6g 0 qCame) 3 = 1 := by decide +kernel
theorem a9_run : ∃ c, Kp.wks a6g 9 a9K = [⟨1, 2, 0, 0, fun _ => false⟩, ⟨0, 1, 0, 0, fun _ => false⟩, ⟨2, c, 0, 0, fun _ => false⟩] ∧ (Kp.run a6g 9 a9K).fl = 3 := by
  have e0 : a9K.v = 1 := (a9_f0.v a9_ok (by decide)).1
  have w0 := a9_f0.work a9_ok a6_wt (by decide)
  have s1 := a9_f0.step a9_ok a6_wt (by decide)
  have ok1 := a9_ok.step a6_wt
  have x1 : (a9K.step a6g).x = a9x1 := by show a9K.x.redo a6g a9K.v = _; rw [e0]; rfl
  have e1 : (a9K.step a6g).v = 0 := (s1.v ok1 (by decide)).1
  have w1 := s1.work ok1 a6_wt (by decide)
  have s2 := s1.step ok1 a6_wt (by decide)
  have ok2 := ok1.step a6_wt
  have e2 : ((a9K.step a6g).step a6g).v = 2 := (s2.v ok2 (by decide)).1
  have w2 := s2.work ok2 a6_wt (by decide)
  have s3 := s2.step ok2 a6_wt (by decide)
  have ok3 := ok2.step a6_wt
  have f0 : a9K.fl < a9K.x.n := by rw [a9_f0.fl a9_ok (by decide)]; decide
  have f1 : (a9K.step a6g).fl < (a9K.step a6g).x.n := by rw [s1.fl ok1 (by decide)]; decide
  have f2 : ((a9K.step a6g).step a6g).fl < ((a9K.step a6g).step a6g).x.n := by rw [s2.fl ok2 (by decide)]; decide
  have f3 : (((a9K.step a6g).step a6g).step a6g).fl = 3 := s3.fl ok3 (by decide)
  have f3' : ¬ (((a9K.step a6g).step a6g).step a6g).fl < (((a9K.step a6g).step a6g).step a6g).x.n := by rw [f3]; decide
  refine ⟨(((a9K.step a6g).step a6g).work a6g).c, ?_, ?_⟩
  · rw [show (9 : Nat) = 6 + 1 + 1 + 1 from rfl, Kp.wks_succ, if_pos f0, Kp.wks_succ, if_pos f1, Kp.wks_succ, if_pos f2, (Kp.run_done a6g 6 _ f3').2]
    have wext : ∀ (k : Wrk) (v c : Nat), k.v = v → k.c = c → (k.w = 0 ∧ k.t = 0 ∧ ∀ z, k.m z = false) → k = ⟨v, c, 0, 0, fun _ => false⟩ := fun k v c h1 h2 h3 => by
      obtain ⟨kv, kc, kw, kt, km⟩ := k
      obtain ⟨h4, h5, h6⟩ := h3
      simp only at h1 h2 h4 h5 h6
      rw [h1, h2, h4, h5, show km = fun _ => false from funext h6]
    rw [wext (a9K.work a6g) 1 2 e0 (by show sumN (a9K.x.tal a6g a9K.v qCame) 3 = 2; rw [e0]; exact a9_c0) w0,
      wext ((a9K.step a6g).work a6g) 0 1 e1 (by show sumN ((a9K.step a6g).x.tal a6g (a9K.step a6g).v qCame) 3 = 1; rw [e1, x1]; exact a9_c1) w1,
      wext (((a9K.step a6g).step a6g).work a6g) 2 _ e2 rfl w2]
  · rw [show (9 : Nat) = 6 + 1 + 1 + 1 from rfl, Kp.run_succ, if_pos f0, Kp.run_succ, if_pos f1, Kp.run_succ, if_pos f2, (Kp.run_done a6g 6 _ f3').1]
    exact f3

/-- Nothing is dirty of a whole index. -/
theorem Whole.inv {G : Gr} {x : Ix} (h : Whole G x) : Kp.Inv ⟨x, fun _ => false⟩ G := fun a b z hl _ => h a b (Ix.low_is hl).1 (Ix.low_is hl).2.1 (Ix.low_is hl).2.2.1
theorem Whole.sole {G : Gr} {x y : Ix} (hx : Whole G x) (hy : Whole G y) (hok : x.Ok) (hn : y.n = x.n) (hr : y.rk = x.rk) (hb : y.by_ = x.by_) {u v : Nat} (hu : u < x.n) (hv : v < x.n) (hne : u ≠ v) : y.ent u v = x.ent u v :=
  Rgt.uniq (F := x.n) (fun a b ha hb' hab _ => hx a b ha hb' hab) (fun a b ha hb' hab _ => hy a b (by omega) (by omega) hab) hok hn hr hb x.n u v (Nat.le_refl _) hu hv hne (by have := (hok.rk u hu).1; omega)

end Go.Proofs.YtoepbhacpidcbaaGreatDoor
