/- bypass.spread: how far it is along steps, or against them, and by which step; walked. -/

import Derived.Test.YtoepbhacpidcbaaGreatDoorQBase
import Derived.Test.YtoepbhacpidcbaaGreatDoorQIdx
import Derived.Test.YtoepbhacpidcbaaGreatDoorQIdxB
import Derived.Test.YtoepbhacpidcbaaGreatDoorQPerm
import Derived.Test.YtoepbhacpidcbaaGreatDoorQRef
import Derived.Test.YtoepbhacpidcbaaGreatDoorQBig
import Derived.Test.YtoepbhacpidcbaaGreatDoorQUnref
import Derived.Test.YtoepbhacpidcbaaGreatDoorQUnE
import Derived.Test.YtoepbhacpidcbaaGreatDoorQItr
import Derived.Test.YtoepbhacpidcbaaGreatDoorQDst
import Derived.Test.YtoepbhacpidcbaaGreatDoorQLnk
import Derived.Test.YtoepbhacpidcbaaGreatDoorQRow2
import Derived.Test.YtoepbhacpidcbaaGreatDoorQGr
import Derived.Test.YtoepbhacpidcbaaGreatDoorQGOps
import Derived.Test.YtoepbhacpidcbaaGreatDoorQBld
import Derived.Test.YtoepbhacpidcbaaGreatDoorQBW
import Derived.Test.YtoepbhacpidcbaaGreatDoorQHpK
import Derived.Test.YtoepbhacpidcbaaGreatDoorQG8
import Derived.Test.YtoepbhacpidcbaaGreatDoorQSqO
import Derived.Test.YtoepbhacpidcbaaGreatDoorQGoes
import Derived.Test.YtoepbhacpidcbaaGreatDoorQUp
import Derived.Test.YtoepbhacpidcbaaGreatDoorQSetP
import Derived.Test.YtoepbhacpidcbaaGreatDoorQWay
import Derived.Test.YtoepbhacpidcbaaGreatDoorQIn1
import Derived.Test.YtoepbhacpidcbaaGreatDoorQAll
import Derived.Test.YtoepbhacpidcbaaGreatDoorQAw6
import Derived.Test.YtoepbhacpidcbaaGreatDoorQMe
import Derived.Test.YtoepbhacpidcbaaGreatDoorQDv1
import Derived.Test.YtoepbhacpidcbaaGreatDoorQSt
import Derived.Test.YtoepbhacpidcbaaGreatDoorQOu1

set_option linter.unusedVariables false
set_option linter.unusedSimpArgs false
namespace Go.Proofs.YtoepbhacpidcbaaGreatDoor
open Go.RowKit Go.Shelf Go.Deep

attribute [local go_sem] Oper.semAt_some

/-- The steps by which vertices are reached, and what is handed back, in memory. -/
structure BM (w : World) (bx : List (Nat × Value)) (Lh : HLoc) (Bf Bb Br B8 n : Nat) (b : By) (t : Value) (W : World) : Prop where
  by_ : Blk W Bb n 188 (fun i => byV (b i))
  r1 : W.cell? ⟨Br, 1, none⟩ = some (.slice (some ⟨Bb, 0, none⟩) n n)
  r8 : W.heap[B8]? = some (.cells #[.slice none 0 0, .slice none 0 0] 129)
  ge : w.heap.size ≤ Bb
  ne : Bb ≠ Bf ∧ Bb ≠ Br ∧ Bf ≠ Br ∧ B8 ≠ Bf ∧ B8 ≠ Bb ∧ B8 ≠ Br ∧ ∀ x ∈ bx, Bb ≠ x.1
  own : ∀ j, (Lh.at t).own j → j ≠ Bb ∧ j ≠ Br ∧ j ≠ B8
section
variable {w : World} {bx : List (Nat × Value)} {Lh : HLoc} {Bf Bb Br B8 n : Nat} {b : By} {t t' : Value} {W W' : World}
theorem BM.fr (h : BM w bx Lh Bf Bb Br B8 n b t W) {F : Nat → Prop} (hf : Fr F W W') (h1 : ¬ F Bb) (h2 : ¬ F Br) (h3 : ¬ F B8) (ho : ∀ j, (Lh.at t').own j → (Lh.at t).own j ∨ W.heap.size ≤ j) : BM w bx Lh Bf Bb Br B8 n b t' W' :=
  ⟨h.by_.fr hf h1, hf.cell_some h.r1 h2, (hf.block B8 (heap_lt h.r8) h3).trans h.r8, h.ge, h.ne, fun j hj => by
    rcases ho j hj with e | e
    · exact h.own j e
    · have a := h.by_.lt
      have c : Br < W.heap.size := cell_lt h.r1
      have d := heap_lt h.r8
      omega⟩
theorem BM.no (h : BM w bx Lh Bf Bb Br B8 n b t W) (hf : Fr No W W') : BM w bx Lh Bf Bb Br B8 n b t W' := h.fr hf (fun h => h) (fun h => h) (fun h => h) (fun j hj => .inl hj)
theorem BM.grown (h : BM w bx Lh Bf Bb Br B8 n b t W) {row : Option Nat} (hg : W.grownBy W' row) (hr : ∀ r, row = some r → ∃ o : Obj, W.heap[r]? = some o ∧ o.isCells = false) : BM w bx Lh Bf Bb Br B8 n b t W' :=
  ⟨h.by_.grown hg hr, cell_kept h.r1 hg hr, ((fr_row hg).block B8 (heap_lt h.r8) (fun e => by
    obtain ⟨o, ho, hc⟩ := hr B8 e
    rw [h.r8] at ho; injection ho with ho; rw [← ho] at hc; cases hc)).trans h.r8, h.ge, h.ne, h.own⟩
theorem BM.drop {x : Nat × Value} (h : BM w (x :: bx) Lh Bf Bb Br B8 n b t W) : BM w bx Lh Bf Bb Br B8 n b t W :=
  ⟨h.by_, h.r1, h.r8, h.ge, ⟨h.ne.1, h.ne.2.1, h.ne.2.2.1, h.ne.2.2.2.1, h.ne.2.2.2.2.1, h.ne.2.2.2.2.2.1, fun x hx => h.ne.2.2.2.2.2.2 x (List.mem_cons_of_mem _ hx)⟩, h.own⟩
theorem BM.add {x : Nat × Value} (h : BM w bx Lh Bf Bb Br B8 n b t W) (hx : Bb ≠ x.1) : BM w (x :: bx) Lh Bf Bb Br B8 n b t W :=
  ⟨h.by_, h.r1, h.r8, h.ge, ⟨h.ne.1, h.ne.2.1, h.ne.2.2.1, h.ne.2.2.2.1, h.ne.2.2.2.2.1, h.ne.2.2.2.2.2.1, fun y hy => by
    rcases List.mem_cons.1 hy with rfl | hy
    · exact hx
    · exact h.ne.2.2.2.2.2.2 y hy⟩, h.own⟩
theorem BM.set (h : BM w bx Lh Bf Bb Br B8 n b t W) (i : Nat) (e : Stp) : BM w bx Lh Bf Bb Br B8 n (ByUp b i e) t (W.setCell ⟨Bb, i, none⟩ e.val) := by
  have hf : Fr (One Bb) W (W.setCell ⟨Bb, i, none⟩ e.val) := (Fr.refl _ W).set1 i _
  refine ⟨(h.by_.setCell i _).congr (fun k hk => ?_), hf.cell_some h.r1 (fun (e : Br = Bb) => h.ne.2.1 e.symm), (hf.block B8 (heap_lt h.r8) (fun (e : B8 = Bb) => h.ne.2.2.2.2.1 e)).trans h.r8, h.ge, h.ne, h.own⟩
  show (if k = i then e.val else byV (b k)) = byV (if k = i then some e else b k)
  split <;> rfl
end
theorem ThM.frB {w : World} {bx : List (Nat × Value)} {Lh : HLoc} {Bf n : Nat} {s : SpS} {t : Value} {W W' : World} (h : ThM w bx Lh Bf n s t W) {F : Nat → Prop} (hf : Fr F W W') (h1 : ∀ x ∈ bx, ¬ F x.1) (h2 : ¬ F Bf) (h3 : ∀ j, (Lh.at t).own j → ¬ F j) (h4 : ∀ k, F k → w.heap.size ≤ k) : ThM w bx Lh Bf n s t W' :=
  ⟨fun x hx => hf.cell_some (h.box x hx) (h1 x hx), h.bag.fr hf h3, h.far.fr hf h2, h.fr.trans' hf (fun k hk e => by have := h4 k e; omega), h.own, h.sep⟩

theorem SInvX.go2 {n : Nat} {E : Edges} {I : List (Nat × Int)} {T : Nat → Int → Prop} {s : SpS} {v : Nat} (h : SInvX n E I T (some v) s) (hE : EOk n (E v)) (hI : ∀ e ∈ I, e.1 < n) (hEE : ∀ v, v < n → EOk n (E v)) (hv : v < n) :
    SInvX n E I T none ((E v).foldl (relax (s.far v)) s) ∧ mu n ((E v).foldl (relax (s.far v)) s) ≤ mu n s := by
  have hr := h.sb.rng v hv
  obtain ⟨b1, b2, b3, b4, b5, b6⟩ := SB.fold (d := s.far v) hr (E v) s h.sb hE (fun e he X hX => hX.2.2 v hv e he _ (h.sb.low X hX v hv) hr.1 hr.2)
  refine ⟨⟨b1, fun x hx hSx _ => ?_, fun e he => Int.le_trans (b2 _ (hI e he)) (h.ini e he)⟩, b6⟩
  obtain ⟨c1, c2⟩ := b4 x hx hSx
  rw [c2]
  by_cases ev : x = v
  · subst ev; exact .inl b3
  · rcases h.out x hx c1 (fun e => ev (Option.some.inj e)) with h1 | h1
    · exact .inl fun e he => Int.le_trans (b2 _ (hEE x hx e he).1) (h1 e he)
    · exact .inr h1
/-- What hands back a vertex's steps: the function that is asked for them, and the iterator's own. -/
structure StepsOk (w : World) (n : Nat) (ag : Bool) (SL : Nat → List (StEl n ag)) (NN cc : Nat → Nat) (f f1 rb : Nat) : Prop where
  ent : ∀ args w, (callFunc f args).run Tryz.prog w = .ok (.enter f args) w
  ent1 : ∀ args w, (callFunc f1 args).run Tryz.prog w = .ok (.enter f1 args) w
  call : ∀ (v : Int) (W : World), Calls Tryz.prog f #[.pointer (some ⟨rb, 0, none⟩), .int .i64 v] W fun e w' => e = .returned (.func (.func f1) #[] #[.pointer (some ⟨W.heap.size, 0, none⟩), .pointer (some ⟨W.heap.size + 1, 0, none⟩)]) ∧
      w' = (W.alloc (.cells #[.pointer (some ⟨rb, 0, none⟩)] 124)).alloc (.cells #[.int .i64 v] 3)
  seq : ∀ (v : Nat), v < n → ∀ (Br Bv : Nat) (F : Nat → Prop), (∀ k, F k → w.heap.size ≤ k) → ¬ F Br → ¬ F Bv → ∀ W : World, Fr No w W → W.cell? ⟨Br, 0, none⟩ = some (.pointer (some ⟨rb, 0, none⟩)) → W.cell? ⟨Bv, 0, none⟩ = some (.int .i64 (v : Nat)) →
      ∀ N0 : Nat, (∀ k, N0 ≤ k → k < N0 + cc v → ¬ F k) → SeqO Fence.wide 7 Tryz.prog f1 #[.pointer (some ⟨Br, 0, none⟩), .pointer (some ⟨Bv, 0, none⟩)] stEnc (Fr F) (fun ys => ys = SL v) (fun pre => pre <+: SL v) (NN v) N0 (cc v) W

def SprR22 (w : World) (n : Nat) {ag : Bool} (SL : Nat → List (StEl n ag)) (E : Edges) (s : Nat) (e : Ending) (w' : World) : Prop :=
  ∃ (Bf Bb : Nat) (far : Nat → Int) (b : By), e = .returned (.agg #[.slice (some ⟨Bf, 0, none⟩) n n, .slice (some ⟨Bb, 0, none⟩) n n]) ∧ Blk w' Bf n 3 (fun i => .int .i64 (far i)) ∧ Blk w' Bb n 188 (fun i => byV (b i)) ∧ Fr No w w' ∧ w.heap.size ≤ Bf ∧ w.heap.size ≤ Bb ∧ SFarT n E [(s, 0)] (fun _ _ => False) far ∧ ByR SL s far b

/-- Between two rounds: what was taken out is still to go on from, or nothing was. -/
def RdyB (n s : Nat) (E : Edges) (g : Nat) (st : SpS) (v : Nat) (d : Int) (ok : Bool) : Prop :=
  (ok = false → SFarT n E [(s, 0)] (fun _ _ => False) st.far) ∧ (ok = true → v < n ∧ d = st.far v ∧ SInvX n E [(s, 0)] (fun _ _ => False) (some v) st ∧ mu n st < g)

/-- What region 1 has made so far. -/
structure R1 (W0 W : World) (n : Nat) (A Bf Bb Br : Option Nat) : Prop where
  fr : Fr No W0 W
  ha : ∀ k, A = some k → W.cell? ⟨k, 0, none⟩ = some (.int .i64 4611686018427387906)
  hf : ∀ k, Bf = some k → W0.heap.size ≤ k ∧ Blk W k n 3 (fun _ => .int .i64 4611686018427387906)
  hb : ∀ k, Bb = some k → W0.heap.size ≤ k ∧ Blk W k n 188 (fun _ => .nilIface)
  hr : ∀ k, Br = some k → W0.heap.size ≤ k ∧ W.heap[k]? = some (.cells #[.slice none 0 0, .slice none 0 0] 129) ∧ ∀ i, W.frozen? ⟨k, i, none⟩ = false
  d1 : ∀ k l, Bf = some k → Bb = some l → k ≠ l
  d2 : ∀ k l, Bf = some k → Br = some l → k ≠ l
  d3 : ∀ k l, Bb = some k → Br = some l → k ≠ l
section
variable {W0 W : World} {n : Nat} {A Bf Bb Br : Option Nat}
theorem R1.a {a : Nat} (h : R1 W0 W n (some a) Bf Bb Br) : W.cell? ⟨a, 0, none⟩ = some (.int .i64 4611686018427387906) := h.ha a rfl
theorem R1.on (h : R1 W0 W n A Bf Bb Br) {V : World} (hf : Fr No W V) : R1 W0 V n A Bf Bb Br :=
  ⟨h.fr.trans hf, fun k e => hf.cell_some (h.ha k e) (fun h => h), fun k e => ⟨(h.hf k e).1, (h.hf k e).2.fr hf (fun h => h)⟩, fun k e => ⟨(h.hb k e).1, (h.hb k e).2.fr hf (fun h => h)⟩,
    fun k e => ⟨(h.hr k e).1, (hf.block k (heap_lt (h.hr k e).2.1) (fun h => h)).trans (h.hr k e).2.1, fun i => (hf.frozen (p := ⟨k, i, none⟩) (heap_lt (h.hr k e).2.1) (fun h => h)).trans ((h.hr k e).2.2 i)⟩, h.d1, h.d2, h.d3⟩
theorem R1.mkA (h : R1 W0 W n none Bf Bb Br) : ∃ a V, W.heap.size = a ∧ W.alloc (.cells #[.int .i64 4611686018427387906] 3) = V ∧ R1 W0 V n (some a) Bf Bb Br := by
  refine ⟨_, _, rfl, rfl, ?_⟩
  have h1 := h.on ((Fr.refl No W).alloc (.cells #[.int .i64 4611686018427387906] 3))
  exact ⟨h1.fr, fun k e => by injection e with e; rw [← e]; exact cell_of (heap_new W _) 0, h1.hf, h1.hb, h1.hr, h1.d1, h1.d2, h1.d3⟩
theorem R1.mkM (h : R1 W0 W n A Bf none Br) : ∃ a V, W.heap.size = a ∧ W.alloc (.cells (madeCells #[.nilIface] n) 188) = V ∧ R1 W0 V n A Bf (some a) Br := by
  refine ⟨_, _, rfl, rfl, ?_⟩
  have h1 := h.on ((Fr.refl No W).alloc (.cells (madeCells #[.nilIface] n) 188))
  exact ⟨h1.fr, h1.ha, h1.hf, fun k e => by injection e with e; rw [← e]; exact ⟨h.fr.size, _, heap_new W _, by simp [size_madeCells], fun i hi => made_get _ n i hi⟩, h1.hr,
    fun k l e e' => by injection e' with e'; have := (h.hf k e).2.lt; omega, h1.d2, fun k l e e' => by injection e with e; have := heap_lt (h.hr l e').2.1; omega⟩
theorem R1.mkC (h : R1 W0 W n A Bf Bb none) : ∃ a V, W.heap.size = a ∧ W.alloc (.cells #[.slice none 0 0, .slice none 0 0] 129) = V ∧ R1 W0 V n A Bf Bb (some a) := by
  refine ⟨_, _, rfl, rfl, ?_⟩
  have h1 := h.on ((Fr.refl No W).alloc (.cells #[.slice none 0 0, .slice none 0 0] 129))
  exact ⟨h1.fr, h1.ha, h1.hf, h1.hb, fun k e => by injection e with e; rw [← e]; exact ⟨h.fr.size, heap_new W _, (own_no (Fr.refl No _) W.heap.size (heap_new W (.cells #[.slice none 0 0, .slice none 0 0] 129))).2.1⟩,
    h1.d1, fun k l e e' => by injection e' with e'; have := (h.hf k e).2.lt; omega, fun k l e e' => by injection e' with e'; have := (h.hb k e).2.lt; omega⟩
theorem R1.F (h : R1 W0 W n A none Bb Br) {V : World} {B : Nat} (hB : Blk V B n 3 (fun _ => .int .i64 4611686018427387906)) (hf : Fr No W V) (hg : W.heap.size ≤ B) : R1 W0 V n A (some B) Bb Br := by
  have h1 := h.on hf
  exact ⟨h1.fr, h1.ha, fun k e => by injection e with e; rw [← e]; exact ⟨Nat.le_trans h.fr.size hg, hB⟩, h1.hb, h1.hr,
    fun k l e e' => by injection e with e; have := (h.hb l e').2.lt; omega, fun k l e e' => by injection e with e; have := heap_lt (h.hr l e').2.1; omega, h1.d3⟩
theorem R1.fin {a bf bb br : Nat} (h : R1 W0 W n (some a) (some bf) (some bb) (some br)) : W.cell? ⟨br, 0, none⟩ = some (.slice none 0 0) ∧ W.cell? ⟨br, 1, none⟩ = some (.slice none 0 0) ∧ W.frozen? ⟨br, 0, none⟩ = false ∧ W.frozen? ⟨br, 1, none⟩ = false ∧
    (Fr No W0 ((W.setCell ⟨br, 0, none⟩ (.slice (some ⟨bf, 0, none⟩) n n)).setCell ⟨br, 1, none⟩ (.slice (some ⟨bb, 0, none⟩) n n)) ∧
      ((W.setCell ⟨br, 0, none⟩ (.slice (some ⟨bf, 0, none⟩) n n)).setCell ⟨br, 1, none⟩ (.slice (some ⟨bb, 0, none⟩) n n)).cell? ⟨br, 0, none⟩ = some (.slice (some ⟨bf, 0, none⟩) n n) ∧
      ((W.setCell ⟨br, 0, none⟩ (.slice (some ⟨bf, 0, none⟩) n n)).setCell ⟨br, 1, none⟩ (.slice (some ⟨bb, 0, none⟩) n n)).cell? ⟨br, 1, none⟩ = some (.slice (some ⟨bb, 0, none⟩) n n) ∧
      Blk ((W.setCell ⟨br, 0, none⟩ (.slice (some ⟨bf, 0, none⟩) n n)).setCell ⟨br, 1, none⟩ (.slice (some ⟨bb, 0, none⟩) n n)) bf n 3 (fun _ => .int .i64 4611686018427387906) ∧
      Blk ((W.setCell ⟨br, 0, none⟩ (.slice (some ⟨bf, 0, none⟩) n n)).setCell ⟨br, 1, none⟩ (.slice (some ⟨bb, 0, none⟩) n n)) bb n 188 (fun _ => .nilIface) ∧ W0.heap.size ≤ bf ∧ W0.heap.size ≤ bb ∧ W0.heap.size ≤ br ∧ bf ≠ bb ∧ bf ≠ br ∧ bb ≠ br) := by
  obtain ⟨g, hc, hz⟩ := h.hr br rfl
  obtain ⟨g1, hf⟩ := h.hf bf rfl
  obtain ⟨g2, hb⟩ := h.hb bb rfl
  have n1 := h.d1 bf bb rfl rfl
  have n2 := h.d2 bf br rfl rfl
  have n3 := h.d3 bb br rfl rfl
  have c0 := cell_of hc 0
  have c1 := cell_of hc 1
  have hF : Fr (One br) W ((W.setCell ⟨br, 0, none⟩ (.slice (some ⟨bf, 0, none⟩) n n)).setCell ⟨br, 1, none⟩ (.slice (some ⟨bb, 0, none⟩) n n)) := ((Fr.refl _ W).set1 0 _).set1 1 _
  have c0 : W.cell? ⟨br, 0, none⟩ = some (.slice none 0 0) := c0
  have c1 : W.cell? ⟨br, 1, none⟩ = some (.slice none 0 0) := c1
  refine ⟨c0, c1, hz 0, hz 1, h.fr.trans' hF (fun k hk (e : k = br) => by omega), by simp [go_sem, c0, c1], by simp [go_sem, c0, c1], hf.fr hF (fun (e : bf = br) => n2 e), hb.fr hF (fun (e : bb = br) => n3 e), g1, g2, g, n1, n2, n3⟩
end
theorem held0_4_6 {P : Program} {md : Region.Mode} {Q : Exit → Act → World → Prop} {S : World → Prop} {fuel : Nat} {listed : Array Bool} {a : Act} {w : World} {o0 x1 x2 x3 o4 x5 o6 : Oper} {l : List Oper} (hr : Region.ready md (o0 :: x1 :: x2 :: x3 :: o4 :: x5 :: o6 :: l).toArray listed = [0, 4, 6]) (h0 : ∀ K' : Act → World → Prop, Shut (∀ a w, S w → (S w → wpAnyH P md (o0 :: x1 :: x2 :: x3 :: o4 :: x5 :: o6 :: l).toArray Q S fuel (listed.setIfInBounds 0 true) a w) → K' a w) → if Region.wanted o0 (yielded (o0 :: x1 :: x2 :: x3 :: o4 :: x5 :: o6 :: l).toArray a.tmps) = true then Oper.wp P o0 a w K' Q else K' (a.put o0.dst undef) w) (h4 : ∀ K' : Act → World → Prop, Shut (∀ a w, S w → (S w → wpAnyH P md (o0 :: x1 :: x2 :: x3 :: o4 :: x5 :: o6 :: l).toArray Q S fuel (listed.setIfInBounds 4 true) a w) → K' a w) → if Region.wanted o4 (yielded (o0 :: x1 :: x2 :: x3 :: o4 :: x5 :: o6 :: l).toArray a.tmps) = true then Oper.wp P o4 a w K' Q else K' (a.put o4.dst undef) w) (h6 : ∀ K' : Act → World → Prop, Shut (∀ a w, S w → (S w → wpAnyH P md (o0 :: x1 :: x2 :: x3 :: o4 :: x5 :: o6 :: l).toArray Q S fuel (listed.setIfInBounds 6 true) a w) → K' a w) → if Region.wanted o6 (yielded (o0 :: x1 :: x2 :: x3 :: o4 :: x5 :: o6 :: l).toArray a.tmps) = true then Oper.wp P o6 a w K' Q else K' (a.put o6.dst undef) w) : wpAnyH P md (o0 :: x1 :: x2 :: x3 :: o4 :: x5 :: o6 :: l).toArray Q S (fuel + 1) listed a w :=
  wpAnyH_ready (rs := [0, 4, 6]) hr (by simp) (AllReadyH.cons (o := o0) rfl h0 (AllReadyH.cons (o := o4) rfl h4 (AllReadyH.cons (o := o6) rfl h6 AllReadyH.nil)))
theorem held2_4_6 {P : Program} {md : Region.Mode} {Q : Exit → Act → World → Prop} {S : World → Prop} {fuel : Nat} {listed : Array Bool} {a : Act} {w : World} {x0 x1 o2 x3 o4 x5 o6 : Oper} {l : List Oper} (hr : Region.ready md (x0 :: x1 :: o2 :: x3 :: o4 :: x5 :: o6 :: l).toArray listed = [2, 4, 6]) (h2 : ∀ K' : Act → World → Prop, Shut (∀ a w, S w → (S w → wpAnyH P md (x0 :: x1 :: o2 :: x3 :: o4 :: x5 :: o6 :: l).toArray Q S fuel (listed.setIfInBounds 2 true) a w) → K' a w) → if Region.wanted o2 (yielded (x0 :: x1 :: o2 :: x3 :: o4 :: x5 :: o6 :: l).toArray a.tmps) = true then Oper.wp P o2 a w K' Q else K' (a.put o2.dst undef) w) (h4 : ∀ K' : Act → World → Prop, Shut (∀ a w, S w → (S w → wpAnyH P md (x0 :: x1 :: o2 :: x3 :: o4 :: x5 :: o6 :: l).toArray Q S fuel (listed.setIfInBounds 4 true) a w) → K' a w) → if Region.wanted o4 (yielded (x0 :: x1 :: o2 :: x3 :: o4 :: x5 :: o6 :: l).toArray a.tmps) = true then Oper.wp P o4 a w K' Q else K' (a.put o4.dst undef) w) (h6 : ∀ K' : Act → World → Prop, Shut (∀ a w, S w → (S w → wpAnyH P md (x0 :: x1 :: o2 :: x3 :: o4 :: x5 :: o6 :: l).toArray Q S fuel (listed.setIfInBounds 6 true) a w) → K' a w) → if Region.wanted o6 (yielded (x0 :: x1 :: o2 :: x3 :: o4 :: x5 :: o6 :: l).toArray a.tmps) = true then Oper.wp P o6 a w K' Q else K' (a.put o6.dst undef) w) : wpAnyH P md (x0 :: x1 :: o2 :: x3 :: o4 :: x5 :: o6 :: l).toArray Q S (fuel + 1) listed a w :=
  wpAnyH_ready (rs := [2, 4, 6]) hr (by simp) (AllReadyH.cons (o := o2) rfl h2 (AllReadyH.cons (o := o4) rfl h4 (AllReadyH.cons (o := o6) rfl h6 AllReadyH.nil)))
theorem held0_4 {P : Program} {md : Region.Mode} {Q : Exit → Act → World → Prop} {S : World → Prop} {fuel : Nat} {listed : Array Bool} {a : Act} {w : World} {o0 x1 x2 x3 o4 : Oper} {l : List Oper} (hr : Region.ready md (o0 :: x1 :: x2 :: x3 :: o4 :: l).toArray listed = [0, 4]) (h0 : ∀ K' : Act → World → Prop, Shut (∀ a w, S w → (S w → wpAnyH P md (o0 :: x1 :: x2 :: x3 :: o4 :: l).toArray Q S fuel (listed.setIfInBounds 0 true) a w) → K' a w) → if Region.wanted o0 (yielded (o0 :: x1 :: x2 :: x3 :: o4 :: l).toArray a.tmps) = true then Oper.wp P o0 a w K' Q else K' (a.put o0.dst undef) w) (h4 : ∀ K' : Act → World → Prop, Shut (∀ a w, S w → (S w → wpAnyH P md (o0 :: x1 :: x2 :: x3 :: o4 :: l).toArray Q S fuel (listed.setIfInBounds 4 true) a w) → K' a w) → if Region.wanted o4 (yielded (o0 :: x1 :: x2 :: x3 :: o4 :: l).toArray a.tmps) = true then Oper.wp P o4 a w K' Q else K' (a.put o4.dst undef) w) : wpAnyH P md (o0 :: x1 :: x2 :: x3 :: o4 :: l).toArray Q S (fuel + 1) listed a w :=
  wpAnyH_ready (rs := [0, 4]) hr (by simp) (AllReadyH.cons (o := o0) rfl h0 (AllReadyH.cons (o := o4) rfl h4 AllReadyH.nil))
theorem held0_6 {P : Program} {md : Region.Mode} {Q : Exit → Act → World → Prop} {S : World → Prop} {fuel : Nat} {listed : Array Bool} {a : Act} {w : World} {o0 x1 x2 x3 x4 x5 o6 : Oper} {l : List Oper} (hr : Region.ready md (o0 :: x1 :: x2 :: x3 :: x4 :: x5 :: o6 :: l).toArray listed = [0, 6]) (h0 : ∀ K' : Act → World → Prop, Shut (∀ a w, S w → (S w → wpAnyH P md (o0 :: x1 :: x2 :: x3 :: x4 :: x5 :: o6 :: l).toArray Q S fuel (listed.setIfInBounds 0 true) a w) → K' a w) → if Region.wanted o0 (yielded (o0 :: x1 :: x2 :: x3 :: x4 :: x5 :: o6 :: l).toArray a.tmps) = true then Oper.wp P o0 a w K' Q else K' (a.put o0.dst undef) w) (h6 : ∀ K' : Act → World → Prop, Shut (∀ a w, S w → (S w → wpAnyH P md (o0 :: x1 :: x2 :: x3 :: x4 :: x5 :: o6 :: l).toArray Q S fuel (listed.setIfInBounds 6 true) a w) → K' a w) → if Region.wanted o6 (yielded (o0 :: x1 :: x2 :: x3 :: x4 :: x5 :: o6 :: l).toArray a.tmps) = true then Oper.wp P o6 a w K' Q else K' (a.put o6.dst undef) w) : wpAnyH P md (o0 :: x1 :: x2 :: x3 :: x4 :: x5 :: o6 :: l).toArray Q S (fuel + 1) listed a w :=
  wpAnyH_ready (rs := [0, 6]) hr (by simp) (AllReadyH.cons (o := o0) rfl h0 (AllReadyH.cons (o := o6) rfl h6 AllReadyH.nil))
theorem held2_4 {P : Program} {md : Region.Mode} {Q : Exit → Act → World → Prop} {S : World → Prop} {fuel : Nat} {listed : Array Bool} {a : Act} {w : World} {x0 x1 o2 x3 o4 : Oper} {l : List Oper} (hr : Region.ready md (x0 :: x1 :: o2 :: x3 :: o4 :: l).toArray listed = [2, 4]) (h2 : ∀ K' : Act → World → Prop, Shut (∀ a w, S w → (S w → wpAnyH P md (x0 :: x1 :: o2 :: x3 :: o4 :: l).toArray Q S fuel (listed.setIfInBounds 2 true) a w) → K' a w) → if Region.wanted o2 (yielded (x0 :: x1 :: o2 :: x3 :: o4 :: l).toArray a.tmps) = true then Oper.wp P o2 a w K' Q else K' (a.put o2.dst undef) w) (h4 : ∀ K' : Act → World → Prop, Shut (∀ a w, S w → (S w → wpAnyH P md (x0 :: x1 :: o2 :: x3 :: o4 :: l).toArray Q S fuel (listed.setIfInBounds 4 true) a w) → K' a w) → if Region.wanted o4 (yielded (x0 :: x1 :: o2 :: x3 :: o4 :: l).toArray a.tmps) = true then Oper.wp P o4 a w K' Q else K' (a.put o4.dst undef) w) : wpAnyH P md (x0 :: x1 :: o2 :: x3 :: o4 :: l).toArray Q S (fuel + 1) listed a w :=
  wpAnyH_ready (rs := [2, 4]) hr (by simp) (AllReadyH.cons (o := o2) rfl h2 (AllReadyH.cons (o := o4) rfl h4 AllReadyH.nil))
theorem held2_6 {P : Program} {md : Region.Mode} {Q : Exit → Act → World → Prop} {S : World → Prop} {fuel : Nat} {listed : Array Bool} {a : Act} {w : World} {x0 x1 o2 x3 x4 x5 o6 : Oper} {l : List Oper} (hr : Region.ready md (x0 :: x1 :: o2 :: x3 :: x4 :: x5 :: o6 :: l).toArray listed = [2, 6]) (h2 : ∀ K' : Act → World → Prop, Shut (∀ a w, S w → (S w → wpAnyH P md (x0 :: x1 :: o2 :: x3 :: x4 :: x5 :: o6 :: l).toArray Q S fuel (listed.setIfInBounds 2 true) a w) → K' a w) → if Region.wanted o2 (yielded (x0 :: x1 :: o2 :: x3 :: x4 :: x5 :: o6 :: l).toArray a.tmps) = true then Oper.wp P o2 a w K' Q else K' (a.put o2.dst undef) w) (h6 : ∀ K' : Act → World → Prop, Shut (∀ a w, S w → (S w → wpAnyH P md (x0 :: x1 :: o2 :: x3 :: x4 :: x5 :: o6 :: l).toArray Q S fuel (listed.setIfInBounds 6 true) a w) → K' a w) → if Region.wanted o6 (yielded (x0 :: x1 :: o2 :: x3 :: x4 :: x5 :: o6 :: l).toArray a.tmps) = true then Oper.wp P o6 a w K' Q else K' (a.put o6.dst undef) w) : wpAnyH P md (x0 :: x1 :: o2 :: x3 :: x4 :: x5 :: o6 :: l).toArray Q S (fuel + 1) listed a w :=
  wpAnyH_ready (rs := [2, 6]) hr (by simp) (AllReadyH.cons (o := o2) rfl h2 (AllReadyH.cons (o := o6) rfl h6 AllReadyH.nil))
theorem held4_6 {P : Program} {md : Region.Mode} {Q : Exit → Act → World → Prop} {S : World → Prop} {fuel : Nat} {listed : Array Bool} {a : Act} {w : World} {x0 x1 x2 x3 o4 x5 o6 : Oper} {l : List Oper} (hr : Region.ready md (x0 :: x1 :: x2 :: x3 :: o4 :: x5 :: o6 :: l).toArray listed = [4, 6]) (h4 : ∀ K' : Act → World → Prop, Shut (∀ a w, S w → (S w → wpAnyH P md (x0 :: x1 :: x2 :: x3 :: o4 :: x5 :: o6 :: l).toArray Q S fuel (listed.setIfInBounds 4 true) a w) → K' a w) → if Region.wanted o4 (yielded (x0 :: x1 :: x2 :: x3 :: o4 :: x5 :: o6 :: l).toArray a.tmps) = true then Oper.wp P o4 a w K' Q else K' (a.put o4.dst undef) w) (h6 : ∀ K' : Act → World → Prop, Shut (∀ a w, S w → (S w → wpAnyH P md (x0 :: x1 :: x2 :: x3 :: o4 :: x5 :: o6 :: l).toArray Q S fuel (listed.setIfInBounds 6 true) a w) → K' a w) → if Region.wanted o6 (yielded (x0 :: x1 :: x2 :: x3 :: o4 :: x5 :: o6 :: l).toArray a.tmps) = true then Oper.wp P o6 a w K' Q else K' (a.put o6.dst undef) w) : wpAnyH P md (x0 :: x1 :: x2 :: x3 :: o4 :: x5 :: o6 :: l).toArray Q S (fuel + 1) listed a w :=
  wpAnyH_ready (rs := [4, 6]) hr (by simp) (AllReadyH.cons (o := o4) rfl h4 (AllReadyH.cons (o := o6) rfl h6 AllReadyH.nil))
theorem info_step : (Tryz.prog.info? 188).map (fun i => (i.zero, i.size, i.bytes)) = some (some .nilIface, 1, 16) := by kernel_rfl

theorem run_ends_arc (k : Nat) (i t h g : Int) (c : Bool) (w : World) : (method (k + 1) 252 (.agg #[.int .i64 i, .int .i64 t, .int .i64 h, .int .i64 g, .bool c]) "ringroad/bypass.ends").run Tryz.prog w = .ok (250, .agg #[.int .i64 i, .int .i64 t, .int .i64 h, .int .i64 g, .bool c]) w := by kernel_rfl
theorem run_ends_entry (k : Nat) (a b : Int) (w : World) : (method (k + 1) 224 (.agg #[.int .i64 a, .int .i64 b]) "ringroad/bypass.ends").run Tryz.prog w = .ok (249, .agg #[.int .i64 a, .int .i64 b]) w := by kernel_rfl
/-- A step's ends: which method is asked, and what it says. -/
theorem Stp.ends_is (e : Stp) : ∃ (Ty : TypeId) (inn : Value) (fE : FuncId), e.val = .iface Ty inn ∧ (∀ (k : Nat) (w : World), (method (k + 1) Ty inn "ringroad/bypass.ends").run Tryz.prog w = .ok (fE, inn) w) ∧ (∀ args w, (callFunc fE args).run Tryz.prog w = .ok (.enter fE args) w) ∧
    ∀ w : World, Calls Tryz.prog fE #[inn] w fun r w' => r = .returned (.tuple #[.int .i64 e.fr, .int .i64 e.to]) ∧ Fr No w w' := by
  match e with
  | .arc i t h g c => exact ⟨_, _, 250, rfl, fun k w => run_ends_arc k i t h g c w, enters_of Tryz.func250 (by kernel_rfl) rfl, fun w => arc_ends i t h g c w⟩
  | .ent a b g => exact ⟨_, _, 249, rfl, fun k w => run_ends_entry k a b w, enters_of Tryz.func249 (by kernel_rfl) rfl, fun w => entry_ends a b w⟩
set_option maxRecDepth 100000 in
set_option maxHeartbeats 4000000 in
theorem spread22_calls {w : World} (n : Nat) (hn1 : 1 ≤ n) (hn : n ≤ 24) (ag : Bool) (SL : Nat → List (StEl n ag)) (E : Edges) (hE : ∀ v, v < n → E v = (SL v).map stEdge) (hEO : ∀ v, v < n → EOk n (E v))
    (NN cc : Nat → Nat) (f f1 rb : Nat) (hst : StepsOk w n ag SL NN cc f f1 rb) (hrb : rb < w.heap.size) (s : Nat) (hs : s < n) :
    Calls Tryz.prog 63 #[.int .i64 (n : Nat), .int .i64 (s : Nat), .func (.func f) #[.pointer (some ⟨rb, 0, none⟩)] #[], .bool ag] w (SprR22 w n SL E s) := by
  have HE := hid hE
  have HEO := hid hEO
  have HST := hid hst
  clear hE hEO hst
  refine (callsIn_wide (n := 8)).1 ?_
  refine callsIn_of_wp_marks Tryz.func63 rfl trivial ?_ rfl
  refine wpIn_wide.2 ?_
  simp only [Tryz.ntmps63, List.size_toArray, List.length_cons, List.length_nil, Nat.reduceAdd, Nat.reduceSub, Array.replicate_succ, Array.replicate_zero, List.push_toArray, List.append_toArray, List.nil_append, List.cons_append]
  go_wp2_with fail
  have hmk := fun w => run_make_row' (P := Tryz.prog) 127 188 .nilIface 16 Tryz.underlying127 info_step rfl .i64 .i64 n (by omega) (by omega) w
  have k7 : ((w.alloc (.cells #[.bool ag] 4)).alloc (.cells #[.slice none 0 0, .slice none 0 0] 129)).cell? ⟨w.heap.size, 0, none⟩ = some (.bool ag) := by simp [go_sem]
  have k8 : ((w.alloc (.cells #[.bool ag] 4)).alloc (.cells #[.slice none 0 0, .slice none 0 0] 129)).heap[w.heap.size + 1]? = some (.cells #[.slice none 0 0, .slice none 0 0] 129) := by
    have := heap_new (w.alloc (.cells #[.bool ag] 4)) (.cells #[.slice none 0 0, .slice none 0 0] 129)
    rw [World.size_alloc] at this; exact this
  have F0 := hid (((Fr.refl No w).alloc (.cells #[.bool ag] 4)).alloc (.cells #[.slice none 0 0, .slice none 0 0] 129))
  have hs0 : ((w.alloc (.cells #[.bool ag] 4)).alloc (.cells #[.slice none 0 0, .slice none 0 0] 129)).heap.size = w.heap.size + 2 := by simp
  generalize ((w.alloc (.cells #[.bool ag] 4)).alloc (.cells #[.slice none 0 0, .slice none 0 0] 129)) = W0 at k7 k8 F0 hs0 ⊢
  have K7 := hid k7
  have K8 := hid k8
  have HS0 := hid hs0
  clear k7 k8 hs0
  refine Code.wp_mono (Q := fun e a' w' => e = .normal ∧ ∃ (Br Bf Bb : Nat) (u20 u21 u22 u23 u24 u25 : Value), a' = { tmps := #[.int .i64 (n : Nat), .int .i64 (s : Nat), .func (.func f) #[.pointer (some ⟨rb, 0, none⟩)] #[], .bool ag, undef, undef, undef, .pointer (some ⟨w.heap.size, 0, none⟩), .pointer (some ⟨w.heap.size + 1, 0, none⟩), .pointer (some ⟨Br, 0, none⟩), undef, undef, undef, undef, undef, undef, undef, undef, undef, undef, u20, u21, u22, u23, u24, u25, undef, undef, undef, undef, undef, undef, undef, undef, undef, undef, undef, undef, undef, undef, undef, undef, undef, undef, undef, undef, undef, undef, undef, undef, undef, undef, undef, undef, undef, undef, undef, undef, undef, undef, undef, undef, undef, undef, undef, undef, undef, undef, undef, undef, undef, undef, undef, undef, undef, undef, undef, undef, undef, undef, undef, undef, undef, undef, undef, undef, undef, undef, undef, undef], defers := [] } ∧ Fr No W0 w' ∧ w'.cell? ⟨Br, 0, none⟩ = some (.slice (some ⟨Bf, 0, none⟩) n n) ∧ w'.cell? ⟨Br, 1, none⟩ = some (.slice (some ⟨Bb, 0, none⟩) n n) ∧ Blk w' Bf n 3 (fun _ => .int .i64 4611686018427387906) ∧ Blk w' Bb n 188 (fun _ => .nilIface) ∧ W0.heap.size ≤ Bf ∧ W0.heap.size ≤ Bb ∧ W0.heap.size ≤ Br ∧ Bf ≠ Bb ∧ Bf ≠ Br ∧ Bb ≠ Br) ?cont ?region
  case region =>
    clear HE HEO HST F0 K7 K8 HS0
    refine wp_region_held_drew (S := fun _ => True) (by kernel_rfl) trivial ?_
    intro _
    have hR : R1 W0 W0.drew n none none none none := ⟨(Fr.refl No W0).drew, fun k e => (by cases e), fun k e => (by cases e), fun k e => (by cases e), fun k e => (by cases e), fun k l e => (by cases e), fun k l e => (by cases e), fun k l e => (by cases e)⟩
    generalize W0.drew = V0 at hR ⊢
    refine heldTake1 (v := .int .i64 (n : Nat)) (by kernel_rfl) (by kernel_rfl) (by kernel_rfl) (fun _ _ _ h => (by cases h.1)) ⟨by rfl, fun w' hw => (by go_simp)⟩ trivial ?_
    try simp only [Act.put, List.setIfInBounds_toArray, List.set_cons_zero, List.set_cons_succ]
    refine heldTake3 (v := .int .i64 (n : Nat)) (by kernel_rfl) (by kernel_rfl) (by kernel_rfl) (fun _ _ _ h => (by cases h.1)) ⟨by rfl, fun w' hw => (by go_simp)⟩ trivial ?_
    try simp only [Act.put, List.setIfInBounds_toArray, List.set_cons_zero, List.set_cons_succ]
    refine held0_4_6 (by kernel_rfl) (fun K' hK => ?_) (fun K' hK => ?_) (fun K' hK => ?_)
    · go_simp
      obtain ⟨A, V, eA, eV, hR⟩ := hR.mkA
      rw [eV, eA]
      clear eA eV
      refine hK.out _ _ trivial (fun _ => ?_)
      clear hK K'
      try simp only [Act.put, List.setIfInBounds_toArray, List.set_cons_zero, List.set_cons_succ]
      refine held2_4_6 (by kernel_rfl) (fun K' hK => ?_) (fun K' hK => ?_) (fun K' hK => ?_)
      · go_simp
        refine (repeat_calls 4611686018427387906 n hn1 (by omega) A _ hR.a).mono ?_
        rintro e w8 ⟨Bf, rfl, hfar, hf8, hbf⟩
        have hR := hR.F hfar hf8 hbf
        clear hfar hf8 hbf
        go_simp
        refine hK.out _ _ trivial (fun _ => ?_)
        clear hK K'
        try simp only [Act.put, List.setIfInBounds_toArray, List.set_cons_zero, List.set_cons_succ]
        refine held4_6 (by kernel_rfl) (fun K' hK => ?_) (fun K' hK => ?_)
        · go_simp
          obtain ⟨Bb, V, eA, eV, hR⟩ := hR.mkM
          rw [eV, eA]
          clear eA eV
          refine hK.out _ _ trivial (fun _ => ?_)
          clear hK K'
          try simp only [Act.put, List.setIfInBounds_toArray, List.set_cons_zero, List.set_cons_succ]
          refine heldTake5 (v := .agg #[.slice (some ⟨Bf, 0, none⟩) n n, .slice (some ⟨Bb, 0, none⟩) n n]) (by kernel_rfl) (by kernel_rfl) (by kernel_rfl) (fun _ _ _ h => (by cases h.1)) ⟨by rfl, fun w' hw => (by go_simp)⟩ trivial ?_
          try simp only [Act.put, List.setIfInBounds_toArray, List.set_cons_zero, List.set_cons_succ]
          refine heldOp6 (by kernel_rfl) (fun K' hK => ?_)
          go_simp
          obtain ⟨Br, V, eA, eV, hR⟩ := hR.mkC
          rw [eV, eA]
          clear eA eV
          refine hK.out _ _ trivial (fun _ => ?_)
          clear hK K'
          try simp only [Act.put, List.setIfInBounds_toArray, List.set_cons_zero, List.set_cons_succ]
          refine heldOp7 (by kernel_rfl) (fun K' hK => ?_)
          obtain ⟨n0, n1, z0, z1, hfin⟩ := hR.fin
          clear hR
          go_simp
          refine hK.out _ _ trivial (fun _ => ?_)
          clear hK K'
          try simp only [Act.put, List.setIfInBounds_toArray, List.set_cons_zero, List.set_cons_succ]
          refine wpAnyH_done (by kernel_rfl) ?_ _
          exact ⟨rfl, Br, Bf, Bb, _, _, _, _, _, _, rfl, hfin⟩
        · go_simp
          obtain ⟨Br, V, eA, eV, hR⟩ := hR.mkC
          rw [eV, eA]
          clear eA eV
          refine hK.out _ _ trivial (fun _ => ?_)
          clear hK K'
          try simp only [Act.put, List.setIfInBounds_toArray, List.set_cons_zero, List.set_cons_succ]
          refine heldOp4 (by kernel_rfl) (fun K' hK => ?_)
          go_simp
          obtain ⟨Bb, V, eA, eV, hR⟩ := hR.mkM
          rw [eV, eA]
          clear eA eV
          refine hK.out _ _ trivial (fun _ => ?_)
          clear hK K'
          try simp only [Act.put, List.setIfInBounds_toArray, List.set_cons_zero, List.set_cons_succ]
          refine heldTake5 (v := .agg #[.slice (some ⟨Bf, 0, none⟩) n n, .slice (some ⟨Bb, 0, none⟩) n n]) (by kernel_rfl) (by kernel_rfl) (by kernel_rfl) (fun _ _ _ h => (by cases h.1)) ⟨by rfl, fun w' hw => (by go_simp)⟩ trivial ?_
          try simp only [Act.put, List.setIfInBounds_toArray, List.set_cons_zero, List.set_cons_succ]
          refine heldOp7 (by kernel_rfl) (fun K' hK => ?_)
          obtain ⟨n0, n1, z0, z1, hfin⟩ := hR.fin
          clear hR
          go_simp
          refine hK.out _ _ trivial (fun _ => ?_)
          clear hK K'
          try simp only [Act.put, List.setIfInBounds_toArray, List.set_cons_zero, List.set_cons_succ]
          refine wpAnyH_done (by kernel_rfl) ?_ _
          exact ⟨rfl, Br, Bf, Bb, _, _, _, _, _, _, rfl, hfin⟩
      · go_simp
        obtain ⟨Bb, V, eA, eV, hR⟩ := hR.mkM
        rw [eV, eA]
        clear eA eV
        refine hK.out _ _ trivial (fun _ => ?_)
        clear hK K'
        try simp only [Act.put, List.setIfInBounds_toArray, List.set_cons_zero, List.set_cons_succ]
        refine held2_6 (by kernel_rfl) (fun K' hK => ?_) (fun K' hK => ?_)
        · go_simp
          refine (repeat_calls 4611686018427387906 n hn1 (by omega) A _ hR.a).mono ?_
          rintro e w8 ⟨Bf, rfl, hfar, hf8, hbf⟩
          have hR := hR.F hfar hf8 hbf
          clear hfar hf8 hbf
          go_simp
          refine hK.out _ _ trivial (fun _ => ?_)
          clear hK K'
          try simp only [Act.put, List.setIfInBounds_toArray, List.set_cons_zero, List.set_cons_succ]
          refine heldTake5 (v := .agg #[.slice (some ⟨Bf, 0, none⟩) n n, .slice (some ⟨Bb, 0, none⟩) n n]) (by kernel_rfl) (by kernel_rfl) (by kernel_rfl) (fun _ _ _ h => (by cases h.1)) ⟨by rfl, fun w' hw => (by go_simp)⟩ trivial ?_
          try simp only [Act.put, List.setIfInBounds_toArray, List.set_cons_zero, List.set_cons_succ]
          refine heldOp6 (by kernel_rfl) (fun K' hK => ?_)
          go_simp
          obtain ⟨Br, V, eA, eV, hR⟩ := hR.mkC
          rw [eV, eA]
          clear eA eV
          refine hK.out _ _ trivial (fun _ => ?_)
          clear hK K'
          try simp only [Act.put, List.setIfInBounds_toArray, List.set_cons_zero, List.set_cons_succ]
          refine heldOp7 (by kernel_rfl) (fun K' hK => ?_)
          obtain ⟨n0, n1, z0, z1, hfin⟩ := hR.fin
          clear hR
          go_simp
          refine hK.out _ _ trivial (fun _ => ?_)
          clear hK K'
          try simp only [Act.put, List.setIfInBounds_toArray, List.set_cons_zero, List.set_cons_succ]
          refine wpAnyH_done (by kernel_rfl) ?_ _
          exact ⟨rfl, Br, Bf, Bb, _, _, _, _, _, _, rfl, hfin⟩
        · go_simp
          obtain ⟨Br, V, eA, eV, hR⟩ := hR.mkC
          rw [eV, eA]
          clear eA eV
          refine hK.out _ _ trivial (fun _ => ?_)
          clear hK K'
          try simp only [Act.put, List.setIfInBounds_toArray, List.set_cons_zero, List.set_cons_succ]
          refine heldOp2 (by kernel_rfl) (fun K' hK => ?_)
          go_simp
          refine (repeat_calls 4611686018427387906 n hn1 (by omega) A _ hR.a).mono ?_
          rintro e w8 ⟨Bf, rfl, hfar, hf8, hbf⟩
          have hR := hR.F hfar hf8 hbf
          clear hfar hf8 hbf
          go_simp
          refine hK.out _ _ trivial (fun _ => ?_)
          clear hK K'
          try simp only [Act.put, List.setIfInBounds_toArray, List.set_cons_zero, List.set_cons_succ]
          refine heldTake5 (v := .agg #[.slice (some ⟨Bf, 0, none⟩) n n, .slice (some ⟨Bb, 0, none⟩) n n]) (by kernel_rfl) (by kernel_rfl) (by kernel_rfl) (fun _ _ _ h => (by cases h.1)) ⟨by rfl, fun w' hw => (by go_simp)⟩ trivial ?_
          try simp only [Act.put, List.setIfInBounds_toArray, List.set_cons_zero, List.set_cons_succ]
          refine heldOp7 (by kernel_rfl) (fun K' hK => ?_)
          obtain ⟨n0, n1, z0, z1, hfin⟩ := hR.fin
          clear hR
          go_simp
          refine hK.out _ _ trivial (fun _ => ?_)
          clear hK K'
          try simp only [Act.put, List.setIfInBounds_toArray, List.set_cons_zero, List.set_cons_succ]
          refine wpAnyH_done (by kernel_rfl) ?_ _
          exact ⟨rfl, Br, Bf, Bb, _, _, _, _, _, _, rfl, hfin⟩
      · go_simp
        obtain ⟨Br, V, eA, eV, hR⟩ := hR.mkC
        rw [eV, eA]
        clear eA eV
        refine hK.out _ _ trivial (fun _ => ?_)
        clear hK K'
        try simp only [Act.put, List.setIfInBounds_toArray, List.set_cons_zero, List.set_cons_succ]
        refine held2_4 (by kernel_rfl) (fun K' hK => ?_) (fun K' hK => ?_)
        · go_simp
          refine (repeat_calls 4611686018427387906 n hn1 (by omega) A _ hR.a).mono ?_
          rintro e w8 ⟨Bf, rfl, hfar, hf8, hbf⟩
          have hR := hR.F hfar hf8 hbf
          clear hfar hf8 hbf
          go_simp
          refine hK.out _ _ trivial (fun _ => ?_)
          clear hK K'
          try simp only [Act.put, List.setIfInBounds_toArray, List.set_cons_zero, List.set_cons_succ]
          refine heldOp4 (by kernel_rfl) (fun K' hK => ?_)
          go_simp
          obtain ⟨Bb, V, eA, eV, hR⟩ := hR.mkM
          rw [eV, eA]
          clear eA eV
          refine hK.out _ _ trivial (fun _ => ?_)
          clear hK K'
          try simp only [Act.put, List.setIfInBounds_toArray, List.set_cons_zero, List.set_cons_succ]
          refine heldTake5 (v := .agg #[.slice (some ⟨Bf, 0, none⟩) n n, .slice (some ⟨Bb, 0, none⟩) n n]) (by kernel_rfl) (by kernel_rfl) (by kernel_rfl) (fun _ _ _ h => (by cases h.1)) ⟨by rfl, fun w' hw => (by go_simp)⟩ trivial ?_
          try simp only [Act.put, List.setIfInBounds_toArray, List.set_cons_zero, List.set_cons_succ]
          refine heldOp7 (by kernel_rfl) (fun K' hK => ?_)
          obtain ⟨n0, n1, z0, z1, hfin⟩ := hR.fin
          clear hR
          go_simp
          refine hK.out _ _ trivial (fun _ => ?_)
          clear hK K'
          try simp only [Act.put, List.setIfInBounds_toArray, List.set_cons_zero, List.set_cons_succ]
          refine wpAnyH_done (by kernel_rfl) ?_ _
          exact ⟨rfl, Br, Bf, Bb, _, _, _, _, _, _, rfl, hfin⟩
        · go_simp
          obtain ⟨Bb, V, eA, eV, hR⟩ := hR.mkM
          rw [eV, eA]
          clear eA eV
          refine hK.out _ _ trivial (fun _ => ?_)
          clear hK K'
          try simp only [Act.put, List.setIfInBounds_toArray, List.set_cons_zero, List.set_cons_succ]
          refine heldOp2 (by kernel_rfl) (fun K' hK => ?_)
          go_simp
          refine (repeat_calls 4611686018427387906 n hn1 (by omega) A _ hR.a).mono ?_
          rintro e w8 ⟨Bf, rfl, hfar, hf8, hbf⟩
          have hR := hR.F hfar hf8 hbf
          clear hfar hf8 hbf
          go_simp
          refine hK.out _ _ trivial (fun _ => ?_)
          clear hK K'
          try simp only [Act.put, List.setIfInBounds_toArray, List.set_cons_zero, List.set_cons_succ]
          refine heldTake5 (v := .agg #[.slice (some ⟨Bf, 0, none⟩) n n, .slice (some ⟨Bb, 0, none⟩) n n]) (by kernel_rfl) (by kernel_rfl) (by kernel_rfl) (fun _ _ _ h => (by cases h.1)) ⟨by rfl, fun w' hw => (by go_simp)⟩ trivial ?_
          try simp only [Act.put, List.setIfInBounds_toArray, List.set_cons_zero, List.set_cons_succ]
          refine heldOp7 (by kernel_rfl) (fun K' hK => ?_)
          obtain ⟨n0, n1, z0, z1, hfin⟩ := hR.fin
          clear hR
          go_simp
          refine hK.out _ _ trivial (fun _ => ?_)
          clear hK K'
          try simp only [Act.put, List.setIfInBounds_toArray, List.set_cons_zero, List.set_cons_succ]
          refine wpAnyH_done (by kernel_rfl) ?_ _
          exact ⟨rfl, Br, Bf, Bb, _, _, _, _, _, _, rfl, hfin⟩
    · go_simp
      obtain ⟨Bb, V, eA, eV, hR⟩ := hR.mkM
      rw [eV, eA]
      clear eA eV
      refine hK.out _ _ trivial (fun _ => ?_)
      clear hK K'
      try simp only [Act.put, List.setIfInBounds_toArray, List.set_cons_zero, List.set_cons_succ]
      refine held0_6 (by kernel_rfl) (fun K' hK => ?_) (fun K' hK => ?_)
      · go_simp
        obtain ⟨A, V, eA, eV, hR⟩ := hR.mkA
        rw [eV, eA]
        clear eA eV
        refine hK.out _ _ trivial (fun _ => ?_)
        clear hK K'
        try simp only [Act.put, List.setIfInBounds_toArray, List.set_cons_zero, List.set_cons_succ]
        refine held2_6 (by kernel_rfl) (fun K' hK => ?_) (fun K' hK => ?_)
        · go_simp
          refine (repeat_calls 4611686018427387906 n hn1 (by omega) A _ hR.a).mono ?_
          rintro e w8 ⟨Bf, rfl, hfar, hf8, hbf⟩
          have hR := hR.F hfar hf8 hbf
          clear hfar hf8 hbf
          go_simp
          refine hK.out _ _ trivial (fun _ => ?_)
          clear hK K'
          try simp only [Act.put, List.setIfInBounds_toArray, List.set_cons_zero, List.set_cons_succ]
          refine heldTake5 (v := .agg #[.slice (some ⟨Bf, 0, none⟩) n n, .slice (some ⟨Bb, 0, none⟩) n n]) (by kernel_rfl) (by kernel_rfl) (by kernel_rfl) (fun _ _ _ h => (by cases h.1)) ⟨by rfl, fun w' hw => (by go_simp)⟩ trivial ?_
          try simp only [Act.put, List.setIfInBounds_toArray, List.set_cons_zero, List.set_cons_succ]
          refine heldOp6 (by kernel_rfl) (fun K' hK => ?_)
          go_simp
          obtain ⟨Br, V, eA, eV, hR⟩ := hR.mkC
          rw [eV, eA]
          clear eA eV
          refine hK.out _ _ trivial (fun _ => ?_)
          clear hK K'
          try simp only [Act.put, List.setIfInBounds_toArray, List.set_cons_zero, List.set_cons_succ]
          refine heldOp7 (by kernel_rfl) (fun K' hK => ?_)
          obtain ⟨n0, n1, z0, z1, hfin⟩ := hR.fin
          clear hR
          go_simp
          refine hK.out _ _ trivial (fun _ => ?_)
          clear hK K'
          try simp only [Act.put, List.setIfInBounds_toArray, List.set_cons_zero, List.set_cons_succ]
          refine wpAnyH_done (by kernel_rfl) ?_ _
          exact ⟨rfl, Br, Bf, Bb, _, _, _, _, _, _, rfl, hfin⟩
        · go_simp
          obtain ⟨Br, V, eA, eV, hR⟩ := hR.mkC
          rw [eV, eA]
          clear eA eV
          refine hK.out _ _ trivial (fun _ => ?_)
          clear hK K'
          try simp only [Act.put, List.setIfInBounds_toArray, List.set_cons_zero, List.set_cons_succ]
          refine heldOp2 (by kernel_rfl) (fun K' hK => ?_)
          go_simp
          refine (repeat_calls 4611686018427387906 n hn1 (by omega) A _ hR.a).mono ?_
          rintro e w8 ⟨Bf, rfl, hfar, hf8, hbf⟩
          have hR := hR.F hfar hf8 hbf
          clear hfar hf8 hbf
          go_simp
          refine hK.out _ _ trivial (fun _ => ?_)
          clear hK K'
          try simp only [Act.put, List.setIfInBounds_toArray, List.set_cons_zero, List.set_cons_succ]
          refine heldTake5 (v := .agg #[.slice (some ⟨Bf, 0, none⟩) n n, .slice (some ⟨Bb, 0, none⟩) n n]) (by kernel_rfl) (by kernel_rfl) (by kernel_rfl) (fun _ _ _ h => (by cases h.1)) ⟨by rfl, fun w' hw => (by go_simp)⟩ trivial ?_
          try simp only [Act.put, List.setIfInBounds_toArray, List.set_cons_zero, List.set_cons_succ]
          refine heldOp7 (by kernel_rfl) (fun K' hK => ?_)
          obtain ⟨n0, n1, z0, z1, hfin⟩ := hR.fin
          clear hR
          go_simp
          refine hK.out _ _ trivial (fun _ => ?_)
          clear hK K'
          try simp only [Act.put, List.setIfInBounds_toArray, List.set_cons_zero, List.set_cons_succ]
          refine wpAnyH_done (by kernel_rfl) ?_ _
          exact ⟨rfl, Br, Bf, Bb, _, _, _, _, _, _, rfl, hfin⟩
      · go_simp
        obtain ⟨Br, V, eA, eV, hR⟩ := hR.mkC
        rw [eV, eA]
        clear eA eV
        refine hK.out _ _ trivial (fun _ => ?_)
        clear hK K'
        try simp only [Act.put, List.setIfInBounds_toArray, List.set_cons_zero, List.set_cons_succ]
        refine heldOp0 (by kernel_rfl) (fun K' hK => ?_)
        go_simp
        obtain ⟨A, V, eA, eV, hR⟩ := hR.mkA
        rw [eV, eA]
        clear eA eV
        refine hK.out _ _ trivial (fun _ => ?_)
        clear hK K'
        try simp only [Act.put, List.setIfInBounds_toArray, List.set_cons_zero, List.set_cons_succ]
        refine heldOp2 (by kernel_rfl) (fun K' hK => ?_)
        go_simp
        refine (repeat_calls 4611686018427387906 n hn1 (by omega) A _ hR.a).mono ?_
        rintro e w8 ⟨Bf, rfl, hfar, hf8, hbf⟩
        have hR := hR.F hfar hf8 hbf
        clear hfar hf8 hbf
        go_simp
        refine hK.out _ _ trivial (fun _ => ?_)
        clear hK K'
        try simp only [Act.put, List.setIfInBounds_toArray, List.set_cons_zero, List.set_cons_succ]
        refine heldTake5 (v := .agg #[.slice (some ⟨Bf, 0, none⟩) n n, .slice (some ⟨Bb, 0, none⟩) n n]) (by kernel_rfl) (by kernel_rfl) (by kernel_rfl) (fun _ _ _ h => (by cases h.1)) ⟨by rfl, fun w' hw => (by go_simp)⟩ trivial ?_
        try simp only [Act.put, List.setIfInBounds_toArray, List.set_cons_zero, List.set_cons_succ]
        refine heldOp7 (by kernel_rfl) (fun K' hK => ?_)
        obtain ⟨n0, n1, z0, z1, hfin⟩ := hR.fin
        clear hR
        go_simp
        refine hK.out _ _ trivial (fun _ => ?_)
        clear hK K'
        try simp only [Act.put, List.setIfInBounds_toArray, List.set_cons_zero, List.set_cons_succ]
        refine wpAnyH_done (by kernel_rfl) ?_ _
        exact ⟨rfl, Br, Bf, Bb, _, _, _, _, _, _, rfl, hfin⟩
    · go_simp
      obtain ⟨Br, V, eA, eV, hR⟩ := hR.mkC
      rw [eV, eA]
      clear eA eV
      refine hK.out _ _ trivial (fun _ => ?_)
      clear hK K'
      try simp only [Act.put, List.setIfInBounds_toArray, List.set_cons_zero, List.set_cons_succ]
      refine held0_4 (by kernel_rfl) (fun K' hK => ?_) (fun K' hK => ?_)
      · go_simp
        obtain ⟨A, V, eA, eV, hR⟩ := hR.mkA
        rw [eV, eA]
        clear eA eV
        refine hK.out _ _ trivial (fun _ => ?_)
        clear hK K'
        try simp only [Act.put, List.setIfInBounds_toArray, List.set_cons_zero, List.set_cons_succ]
        refine held2_4 (by kernel_rfl) (fun K' hK => ?_) (fun K' hK => ?_)
        · go_simp
          refine (repeat_calls 4611686018427387906 n hn1 (by omega) A _ hR.a).mono ?_
          rintro e w8 ⟨Bf, rfl, hfar, hf8, hbf⟩
          have hR := hR.F hfar hf8 hbf
          clear hfar hf8 hbf
          go_simp
          refine hK.out _ _ trivial (fun _ => ?_)
          clear hK K'
          try simp only [Act.put, List.setIfInBounds_toArray, List.set_cons_zero, List.set_cons_succ]
          refine heldOp4 (by kernel_rfl) (fun K' hK => ?_)
          go_simp
          obtain ⟨Bb, V, eA, eV, hR⟩ := hR.mkM
          rw [eV, eA]
          clear eA eV
          refine hK.out _ _ trivial (fun _ => ?_)
          clear hK K'
          try simp only [Act.put, List.setIfInBounds_toArray, List.set_cons_zero, List.set_cons_succ]
          refine heldTake5 (v := .agg #[.slice (some ⟨Bf, 0, none⟩) n n, .slice (some ⟨Bb, 0, none⟩) n n]) (by kernel_rfl) (by kernel_rfl) (by kernel_rfl) (fun _ _ _ h => (by cases h.1)) ⟨by rfl, fun w' hw => (by go_simp)⟩ trivial ?_
          try simp only [Act.put, List.setIfInBounds_toArray, List.set_cons_zero, List.set_cons_succ]
          refine heldOp7 (by kernel_rfl) (fun K' hK => ?_)
          obtain ⟨n0, n1, z0, z1, hfin⟩ := hR.fin
          clear hR
          go_simp
          refine hK.out _ _ trivial (fun _ => ?_)
          clear hK K'
          try simp only [Act.put, List.setIfInBounds_toArray, List.set_cons_zero, List.set_cons_succ]
          refine wpAnyH_done (by kernel_rfl) ?_ _
          exact ⟨rfl, Br, Bf, Bb, _, _, _, _, _, _, rfl, hfin⟩
        · go_simp
          obtain ⟨Bb, V, eA, eV, hR⟩ := hR.mkM
          rw [eV, eA]
          clear eA eV
          refine hK.out _ _ trivial (fun _ => ?_)
          clear hK K'
          try simp only [Act.put, List.setIfInBounds_toArray, List.set_cons_zero, List.set_cons_succ]
          refine heldOp2 (by kernel_rfl) (fun K' hK => ?_)
          go_simp
          refine (repeat_calls 4611686018427387906 n hn1 (by omega) A _ hR.a).mono ?_
          rintro e w8 ⟨Bf, rfl, hfar, hf8, hbf⟩
          have hR := hR.F hfar hf8 hbf
          clear hfar hf8 hbf
          go_simp
          refine hK.out _ _ trivial (fun _ => ?_)
          clear hK K'
          try simp only [Act.put, List.setIfInBounds_toArray, List.set_cons_zero, List.set_cons_succ]
          refine heldTake5 (v := .agg #[.slice (some ⟨Bf, 0, none⟩) n n, .slice (some ⟨Bb, 0, none⟩) n n]) (by kernel_rfl) (by kernel_rfl) (by kernel_rfl) (fun _ _ _ h => (by cases h.1)) ⟨by rfl, fun w' hw => (by go_simp)⟩ trivial ?_
          try simp only [Act.put, List.setIfInBounds_toArray, List.set_cons_zero, List.set_cons_succ]
          refine heldOp7 (by kernel_rfl) (fun K' hK => ?_)
          obtain ⟨n0, n1, z0, z1, hfin⟩ := hR.fin
          clear hR
          go_simp
          refine hK.out _ _ trivial (fun _ => ?_)
          clear hK K'
          try simp only [Act.put, List.setIfInBounds_toArray, List.set_cons_zero, List.set_cons_succ]
          refine wpAnyH_done (by kernel_rfl) ?_ _
          exact ⟨rfl, Br, Bf, Bb, _, _, _, _, _, _, rfl, hfin⟩
      · go_simp
        obtain ⟨Bb, V, eA, eV, hR⟩ := hR.mkM
        rw [eV, eA]
        clear eA eV
        refine hK.out _ _ trivial (fun _ => ?_)
        clear hK K'
        try simp only [Act.put, List.setIfInBounds_toArray, List.set_cons_zero, List.set_cons_succ]
        refine heldOp0 (by kernel_rfl) (fun K' hK => ?_)
        go_simp
        obtain ⟨A, V, eA, eV, hR⟩ := hR.mkA
        rw [eV, eA]
        clear eA eV
        refine hK.out _ _ trivial (fun _ => ?_)
        clear hK K'
        try simp only [Act.put, List.setIfInBounds_toArray, List.set_cons_zero, List.set_cons_succ]
        refine heldOp2 (by kernel_rfl) (fun K' hK => ?_)
        go_simp
        refine (repeat_calls 4611686018427387906 n hn1 (by omega) A _ hR.a).mono ?_
        rintro e w8 ⟨Bf, rfl, hfar, hf8, hbf⟩
        have hR := hR.F hfar hf8 hbf
        clear hfar hf8 hbf
        go_simp
        refine hK.out _ _ trivial (fun _ => ?_)
        clear hK K'
        try simp only [Act.put, List.setIfInBounds_toArray, List.set_cons_zero, List.set_cons_succ]
        refine heldTake5 (v := .agg #[.slice (some ⟨Bf, 0, none⟩) n n, .slice (some ⟨Bb, 0, none⟩) n n]) (by kernel_rfl) (by kernel_rfl) (by kernel_rfl) (fun _ _ _ h => (by cases h.1)) ⟨by rfl, fun w' hw => (by go_simp)⟩ trivial ?_
        try simp only [Act.put, List.setIfInBounds_toArray, List.set_cons_zero, List.set_cons_succ]
        refine heldOp7 (by kernel_rfl) (fun K' hK => ?_)
        obtain ⟨n0, n1, z0, z1, hfin⟩ := hR.fin
        clear hR
        go_simp
        refine hK.out _ _ trivial (fun _ => ?_)
        clear hK K'
        try simp only [Act.put, List.setIfInBounds_toArray, List.set_cons_zero, List.set_cons_succ]
        refine wpAnyH_done (by kernel_rfl) ?_ _
        exact ⟨rfl, Br, Bf, Bb, _, _, _, _, _, _, rfl, hfin⟩
  case cont =>
    rintro e a' w' ⟨rfl, Br, Bf, Bb, u20, u21, u22, u23, u24, u25, rfl, hfc, c0, c1, hbf, hbb, g1, g2, g3, n1, n2, n3⟩
    simp only [Exit.then]
    go_wp2_with fail
    have F01 := hid (F0.out.trans hfc)
    have m7 := hfc.cell_some K7.out (fun h => h)
    have m8 : w'.heap[w.heap.size + 1]? = some (.cells #[.slice none 0 0, .slice none 0 0] 129) := (hfc.block _ (heap_lt K8.out) (fun h => h)).trans K8.out
    have hw1 := hfc.size
    have hs0 := HS0.out
    have l1 : Bf < w'.heap.size := hbf.lt
    have l2 : Bb < w'.heap.size := hbb.lt
    have l3 : Br < w'.heap.size := cell_lt c0
    have M8 := hid m8
    have HBF := hid hbf
    have HBB := hid hbb
    clear hfc F0 K7 K8 HS0 hmk m8 hbf hbb
    refine (hnew_calls n hn1 (by omega) w').mono ?_
    rintro e w4 ⟨Lh, rfl, hbag, hf4, hown⟩
    have F4 := hid (F01.out.trans hf4)
    have p7 := hf4.cell_some m7 (fun h => h)
    have p0 := hf4.cell_some c0 (fun h => h)
    have p1 := hf4.cell_some c1 (fun h => h)
    have P8 : Hid (w4.heap[w.heap.size + 1]? = some (.cells #[.slice none 0 0, .slice none 0 0] 129)) := hid ((hf4.block _ (heap_lt M8.out) (fun h => h)).trans M8.out)
    have HBF4 := hid (HBF.out.fr hf4 (fun h => h))
    have HBB4 := hid (HBB.out.fr hf4 (fun h => h))
    have hw4 := hf4.size
    have HOWN := hid hown
    have HLT : Hid (∀ j, Lh.own j → j < w4.heap.size) := hid fun j hj => hbag.own_lt hj
    have HBAG := hid hbag
    have q1 := HBF4.out.cell hs
    have q2 := HBF4.out.frozen s
    have lf4 := HBF4.out.lt
    have hs2 : (s : Int) < n := by omega
    clear hf4 hown hbag HBF HBB m7 c0 c1 M8 F01
    have lbr4 : Br < w4.heap.size := cell_lt p0
    go_wp2_with fail
    obtain ⟨W5, hW5⟩ : ∃ W5, (w4.setCell ⟨Bf, s, none⟩ (.int .i64 0)).alloc (.cells #[.pointer (some ⟨Lh.b, 0, none⟩)] 212) = W5 := ⟨_, rfl⟩
    have hF0 : Fr (One Bf) w4 W5 := by rw [← hW5]; exact ((Fr.refl (One Bf) w4).set1 s _).alloc _
    have hthm : ThM w [(w.heap.size, .bool ag), (Br, .slice (some ⟨Bf, 0, none⟩) n n), (w4.heap.size, .pointer (some ⟨Lh.b, 0, none⟩))] Lh Bf n ⟨fun v => if v = s then 0 else 4611686018427387906, fun _ => false, fun _ => 0⟩ Lh.t W5 := by
      refine ⟨fun y hy => ?_, ?_, ?_, ?_, fun j hj => ?_, ⟨by omega, fun y hy => ?_⟩⟩
      · simp only [List.mem_cons, List.not_mem_nil, or_false] at hy
        rcases hy with rfl | rfl | rfl
        · exact hF0.cell_some p7 (fun (e : w.heap.size = Bf) => by omega)
        · exact hF0.cell_some p0 (fun (e : Br = Bf) => n2 e.symm)
        · rw [← hW5]; simp [go_sem]
      · exact HBAG.out.fr hF0 (fun j hj (e : j = Bf) => by have := HOWN.out j hj; omega)
      · rw [← hW5]
        refine ((HBF4.out.setCell s (.int .i64 0)).alloc _).congr (fun k hk => ?_)
        show (if k = s then Value.int .i64 0 else Value.int .i64 4611686018427387906) = Value.int .i64 (if k = s then 0 else 4611686018427387906)
        split <;> rfl
      · exact F4.out.trans' hF0 (fun k hk (e : k = Bf) => by omega)
      · have h1 := HOWN.out j hj
        have h2 := HLT.out j hj
        refine ⟨by omega, by omega, fun y hy => ?_⟩
        simp only [List.mem_cons, List.not_mem_nil, or_false] at hy
        rcases hy with rfl | rfl | rfl
        · show j ≠ w.heap.size; omega
        · show j ≠ Br; omega
        · show j ≠ w4.heap.size; omega
      · simp only [List.mem_cons, List.not_mem_nil, or_false] at hy
        rcases hy with rfl | rfl | rfl
        · show Bf ≠ w.heap.size; omega
        · exact n2
        · show Bf ≠ w4.heap.size; omega
    have hbm : BM w [(w.heap.size, .bool ag), (Br, .slice (some ⟨Bf, 0, none⟩) n n), (w4.heap.size, .pointer (some ⟨Lh.b, 0, none⟩))] Lh Bf Bb Br (w.heap.size + 1) n (fun _ => none) Lh.t W5 := by
      have lbb := HBB4.out.lt
      refine ⟨(HBB4.out.fr hF0 (fun (e : Bb = Bf) => n1 e.symm)).congr (fun k hk => rfl), hF0.cell_some p1 (fun (e : Br = Bf) => n2 e.symm), (hF0.block _ (heap_lt P8.out) (fun (e : w.heap.size + 1 = Bf) => by omega)).trans P8.out, by omega, ⟨fun e => n1 e.symm, n3, n2, by omega, by omega, by omega, fun y hy => ?_⟩, fun j hj => ?_⟩
      · simp only [List.mem_cons, List.not_mem_nil, or_false] at hy
        rcases hy with rfl | rfl | rfl
        · show Bb ≠ w.heap.size; omega
        · exact n3
        · show Bb ≠ w4.heap.size; omega
      · have h1 := HOWN.out j hj
        omega
    have HT := hid hthm
    have HBM := hid hbm
    rw [hW5]
    obtain ⟨B10, hB10⟩ : ∃ B, w4.heap.size = B := ⟨_, rfl⟩
    rw [hB10] at HT HBM
    rw [hB10]
    clear hthm hbm hF0 HOWN HLT HBAG HBF4 HBB4 q1 q2 P8 p7 p0 p1 hW5 hB10 lbr4 lf4 hw4 hw1 hs0 l1 l2 l3
    refine (hput_calls (L := Lh.at Lh.t) HT.out.bag s 0 hs (by omega)).mono ?_
    intro e w5 hr
    obtain ⟨t5, c5, rfl, hth5, hf5, hown5⟩ := HT.out.put hr
    have hbm5 := HBM.out.fr hf5 (fun hk => (HBM.out.own _ hk).1 rfl) (fun hk => (HBM.out.own _ hk).2.1 rfl) (fun hk => (HBM.out.own _ hk).2.2 rfl) hown5
    have hinv0 : SInvX n E [(s, 0)] (fun _ _ => False) none ⟨fun v => if v = s then 0 else 4611686018427387906, setS (fun _ => false) s true, putP (fun _ => false) (fun _ => 0) s 0⟩ :=
      SInvX.first hs HEO.out _ (fun v _ => rfl) (fun v _ => by
        show setS (fun _ => false) s true v = decide (v = s)
        unfold setS
        by_cases e : v = s
        · rw [if_pos e]; simp [e]
        · rw [if_neg e]; simp [e]) (by simp [putP, updI])
    have hSs : (⟨fun v => if v = s then 0 else 4611686018427387906, setS (fun _ => false) s true, putP (fun _ => false) (fun _ => 0) s 0⟩ : SpS).S s = true := by simp [setS]
    have hbo : ByOk SL s (fun v => if v = s then 0 else 4611686018427387906) (fun _ => none) := ByOk.first
    obtain ⟨s0, hs0⟩ : ∃ s0 : SpS, (⟨fun v => if v = s then 0 else 4611686018427387906, setS (fun _ => false) s true, putP (fun _ => false) (fun _ => 0) s 0⟩ : SpS) = s0 := ⟨_, rfl⟩
    have hbo : ByOk SL s s0.far (fun _ => none) := by rw [← hs0]; exact hbo
    have hth5 : ThM w [(w.heap.size, .bool ag), (Br, .slice (some ⟨Bf, 0, none⟩) n n), (B10, .pointer (some ⟨Lh.b, 0, none⟩))] Lh Bf n s0 t5 w5 := by rw [← hs0]; exact hth5
    rw [hs0] at hinv0 hSs
    obtain ⟨bx, hbx⟩ : ∃ bx, [(w.heap.size, Value.bool ag), (Br, .slice (some ⟨Bf, 0, none⟩) n n), (B10, .pointer (some ⟨Lh.b, 0, none⟩))] = bx := ⟨_, rfl⟩
    have m7 : (w.heap.size, Value.bool ag) ∈ bx := by rw [← hbx]; simp
    have m9 : (Br, Value.slice (some ⟨Bf, 0, none⟩) n n) ∈ bx := by rw [← hbx]; simp
    have m10 : (B10, Value.pointer (some ⟨Lh.b, 0, none⟩)) ∈ bx := by rw [← hbx]; simp
    rw [hbx] at hth5 hbm5
    have M7 := hid m7
    have M9 := hid m9
    have M10 := hid m10
    have HT5 := hid hth5
    have HBM5 := hid hbm5
    have HBO := hid hbo
    have HINV0 := hid hinv0
    have k10 := hth5.box _ m10
    simp only at k10
    clear hbx hs0 hr HT HBM m7 m9 m10 hth5 hbm5 hbo hinv0 hf5 hown5
    go_wp2_with fail
    refine (hpop_calls (L := Lh.at t5) HT5.out.bag (by omega)).mono ?_
    intro e w6 hr
    rcases HT5.out.pop hr with ⟨hS, _⟩ | ⟨v, t6, hv, hS, rfl, hth, hf, hown⟩
    · exact absurd (hS s hs) (by rw [hSs]; decide)
    have hbm6 := HBM5.out.fr hf (fun hk => (HBM5.out.own _ hk).1 rfl) (fun hk => (HBM5.out.own _ hk).2.1 rfl) (fun hk => (HBM5.out.own _ hk).2.2 rfl) (fun j hj => .inl (hown j hj))
    obtain ⟨p1, p2, p3⟩ := HINV0.out.pop hv hS
    obtain ⟨d1, hd⟩ : ∃ d, s0.pr v = d := ⟨_, rfl⟩
    rw [hd] at p3 ⊢
    obtain ⟨s1, hs1⟩ : ∃ s1 : SpS, (⟨s0.far, setS s0.S v false, s0.pr⟩ : SpS) = s1 := ⟨_, rfl⟩
    have p3' : d1 = s1.far v := by rw [← hs1]; exact p3
    have hbo1 : ByOk SL s s1.far (fun _ => none) := by rw [← hs1]; exact HBO.out
    rw [hs1] at p1 p2 hth
    have HRDY := hid (show RdyB n s E (mu n s0) s1 v d1 true from ⟨fun h => (by cases h), fun _ => ⟨hv, p3', p1, p2⟩⟩)
    have HT6 := hid hth
    have HBM6 := hid hbm6
    have HBO1 := hid hbo1
    obtain ⟨g0, hg0⟩ : ∃ g0, mu n s0 = g0 := ⟨_, rfl⟩
    rw [hg0] at HRDY
    clear hr hS hth hf hown p1 p2 p3 p3' hd hs1 hg0 HINV0 HT5 k10 hSs hbm6 HBM5 hbo1 HBO
    go_wp2
    obtain ⟨ht7, hb7⟩ := HT6.out.box_new d1 3
    have hbm7 := HBM6.out.no ((Fr.refl No w6).alloc (.cells #[.int .i64 d1] 3))
    have hbn7 : w6.heap.size ≠ Bb ∧ w6.heap.size ≠ w.heap.size + 1 := by
      have h1 := HBM6.out.by_.lt
      have h2 := heap_lt HBM6.out.r8
      omega
    have HT7 := hid ht7
    have HB7 := hid hb7
    have HBM7 := hid hbm7
    have HBN7 := hid hbn7
    clear ht7 hb7 hbm7 hbn7
    refine wp_loop_ghost_k (fun k a' W => ∃ (st : SpS) (bb : By) (t : Value) (z : Nat) (d : Int) (b : Nat) (ok : Bool) (ds : List Nat) (u44 u45 u46 u47 u48 u49 u50 u51 u52 u53 u88 : Value), (ThM w bx Lh Bf n st t W ∧ Bx w bx Lh Bf t b d W ∧ BM w bx Lh Bf Bb Br (w.heap.size + 1) n bb t W ∧ (b ≠ Bb ∧ b ≠ w.heap.size + 1) ∧ ByOk SL s st.far bb ∧ RdyB n s E k st z d ok ∧ Marks w.heap.size ds W) ∧
      a' = { tmps := #[.int .i64 (n : Nat), .int .i64 (s : Nat), .func (.func f) #[.pointer (some ⟨rb, 0, none⟩)] #[], .bool ag, undef, undef, undef, .pointer (some ⟨w.heap.size, 0, none⟩), .pointer (some ⟨w.heap.size + 1, 0, none⟩), .pointer (some ⟨Br, 0, none⟩), .pointer (some ⟨B10, 0, none⟩), .int .i64 0, .int .i64 (z : Nat), .pointer (some ⟨b, 0, none⟩), .bool ok, undef, undef, undef, undef, undef, u20, u21, u22, u23, u24, u25, .tuple #[.pointer (some ⟨Lh.b, 0, none⟩), .int .i64 0], .int .i64 (n : Nat), .tuple #[.pointer (some ⟨Lh.b, 0, none⟩), .int .i64 0], .pointer (some ⟨Lh.b, 0, none⟩), .int .i64 0, .pointer (some ⟨Br, 0, none⟩), .slice (some ⟨Bf, 0, none⟩) n n, .int .i64 (s : Nat), .pointer (some ⟨Bf, s, none⟩), .pointer (some ⟨Lh.b, 0, none⟩), .int .i64 (s : Nat), .int .i64 c5, .tuple #[.int .i64 (v : Nat), .int .i64 d1, .bool true], .pointer (some ⟨Lh.b, 0, none⟩), .tuple #[.int .i64 (v : Nat), .int .i64 d1, .bool true], .int .i64 (v : Nat), .int .i64 d1, .bool true, u44, u45, u46, u47, u48, u49, u50, u51, u52, u53, undef, undef, undef, undef, undef, undef, undef, undef, undef, undef, undef, undef, undef, undef, undef, undef, undef, undef, undef, undef, undef, undef, undef, undef, undef, undef, undef, undef, undef, undef, undef, undef, undef, undef, u88, undef], defers := ds.map mark }) g0 ?_ ?_
    · exact ⟨s1, fun _ => none, t6, v, d1, _, true, [], _, _, _, _, _, _, _, _, _, _, _, ⟨HT7.out, HB7.out, HBM7.out, HBN7.out, HBO1.out, HRDY.out, Marks.nil _ _⟩, rfl⟩
    intro gk a' wr hI J K hJ hK
    clear HT7 HB7 HBM7 HBN7 HBO1 HRDY HT6 HBM6
    obtain ⟨st, bb, t, z, d, b, ok, ds, u44, u45, u46, u47, u48, u49, u50, u51, u52, u53, u88, ⟨hth, hbx, hbm, hbn, hbo, hrdy, hmk⟩, rfl⟩ := hI
    have HTH := hid hth
    have HBX := hid hbx
    have HBM := hid hbm
    have HBN := hid hbn
    have HBO := hid hbo
    have HRD := hid hrdy
    have HMK := hid hmk
    have k7 := hth.box _ M7.out
    have k9 := hth.box _ M9.out
    have k10 := hth.box _ M10.out
    have kb := hbx.c
    simp only at k7 k9 k10
    clear hth hbx hrdy hmk hbm hbn hbo
    cases ok with
    | false =>
      have r1 := HBM.out.r1
      have r8 := HBM.out.r8
      have e80 : wr.cell? ⟨w.heap.size + 1, 0, none⟩ = some (.slice none 0 0) := cell_of r8 0
      have e81 : wr.cell? ⟨w.heap.size + 1, 1, none⟩ = some (.slice none 0 0) := cell_of r8 1
      have z80 : wr.frozen? ⟨w.heap.size + 1, 0, none⟩ = false := (own_no (Fr.refl No wr) (w.heap.size + 1) r8).2.1 0
      have z81 : wr.frozen? ⟨w.heap.size + 1, 1, none⟩ = false := (own_no (Fr.refl No wr) (w.heap.size + 1) r8).2.1 1
      go_wp2_with fail
      obtain ⟨W2, hW2⟩ : ∃ W2, (wr.setCell ⟨w.heap.size + 1, 0, none⟩ (.slice (some ⟨Bf, 0, none⟩) n n)).setCell ⟨w.heap.size + 1, 1, none⟩ (.slice (some ⟨Bb, 0, none⟩) n n) = W2 := ⟨_, rfl⟩
      have hF8 : Fr (One (w.heap.size + 1)) wr W2 := by rw [← hW2]; exact ((Fr.refl _ wr).set1 0 _).set1 1 _
      have y0 : W2.cell? ⟨w.heap.size + 1, 0, none⟩ = some (.slice (some ⟨Bf, 0, none⟩) n n) := by rw [← hW2]; simp [go_sem, e80, e81]
      have y1 : W2.cell? ⟨w.heap.size + 1, 1, none⟩ = some (.slice (some ⟨Bb, 0, none⟩) n n) := by rw [← hW2]; simp [go_sem, e80, e81]
      have hmk2 : Marks w.heap.size ds W2 := HMK.out.fr hF8 (fun k o (e : k = w.heap.size + 1) ho => by rw [e, HBM.out.r8] at ho; injection ho with ho; rw [← ho]; rfl)
      rw [hW2]
      clear hW2
      refine leaves_marks ds W2 hmk2 fun W' hW' => ?_
      have hnc : ∀ k i x, W2.cell? ⟨k, i, none⟩ = some x → ¬ k ∈ ds := fun k i x hx hk => by
        have := cell_is_cells hx (hmk2.2 k hk).2
        cases this
      have x0 := hW'.cell_some y0 (hnc _ _ _ y0)
      have x1 := hW'.cell_some y1 (hnc _ _ _ y1)
      have hWn : Fr No w W' := (HTH.out.fr.trans' hF8 (fun i hi (e : i = _) => by omega)).trans' hW' (fun i hi hk => by have := (hmk2.2 i hk).1; omega)
      have hfar : Blk W2 Bf n 3 (fun i => .int .i64 (st.far i)) := HTH.out.far.fr hF8 (fun (e : Bf = _) => HBM.out.ne.2.2.2.1 e.symm)
      have hby : Blk W2 Bb n 188 (fun i => byV (bb i)) := HBM.out.by_.fr hF8 (fun (e : Bb = _) => HBM.out.ne.2.2.2.2.1 e.symm)
      have hsf := HRD.out.1 rfl
      exact ⟨.agg #[.slice (some ⟨Bf, 0, none⟩) n n, .slice (some ⟨Bb, 0, none⟩) n n], by simp [results, Tryz.results63, go_sem, x0, x1], Bf, Bb, st.far, bb, rfl, hfar.fr hW' (hnc Bf 0 _ (hfar.cell (by omega))), hby.fr hW' (hnc Bb 0 _ (hby.cell (by omega))), hWn, HTH.out.sep.1, HBM.out.ge, hsf, HBO.out.last HE.out HEO.out hsf⟩
    | true =>
      obtain ⟨hzn, hdz, hinv, hmu⟩ := HRD.out.2 rfl
      have hgo := hinv.go2 (HEO.out z hzn) (fun e he => by rw [List.mem_singleton] at he; subst he; exact hs) (fun y hy => HEO.out y hy) hzn
      have hdb := hinv.sb.rng z hzn
      rw [← hdz] at hgo hdb
      have hmu2 := Nat.lt_of_le_of_lt hgo.2 hmu
      have hdz2 : st.far z ≤ d := by omega
      have HGO := hid hgo.1
      have HMU2 := hid hmu2
      have HDZ := hid hdz2
      clear hgo hmu2 hinv hmu hdz hdz2 HRD
      have hbdw : ∀ el ∈ SL z, 1 ≤ el.1.w ∧ el.1.w ≤ 4611686018427387906 := fun el hel => by
        have := HEO.out z hzn (stEdge el) (by rw [HE.out z hzn]; exact List.mem_map.2 ⟨el, hel, rfl⟩)
        exact this.2
      have HBDW := hid hbdw
      have HDB := hid hdb
      clear hbdw hdb g1 g2 g3 hth5 F4
      go_wp2_with fail
      rw [HST.out.ent]
      go_wp2_with fail
      refine (HST.out.call (z : Nat) wr).mono ?_
      rintro e W1 ⟨rfl, hW1⟩
      have f1' : Fr No wr W1 := by rw [hW1]; exact ((Fr.refl No wr).alloc _).alloc _
      have cx : W1.cell? ⟨wr.heap.size, 0, none⟩ = some (.pointer (some ⟨rb, 0, none⟩)) := by rw [hW1]; simp [go_sem]
      have cv : W1.cell? ⟨wr.heap.size + 1, 0, none⟩ = some (.int .i64 (z : Nat)) := by rw [hW1]; simp [go_sem]
      have hsz : W1.heap.size = wr.heap.size + 1 + 1 := by rw [hW1]; simp
      have hown0 : ∀ j, (Lh.at t).own j → j < wr.heap.size := fun j hj => HTH.out.bag.own_lt hj
      have hbf0 := HTH.out.far.lt
      have hbb0 := HBM.out.by_.lt
      have hw0 := HTH.out.fr.size
      have ht2 : ThM w ((wr.heap.size, .pointer (some ⟨rb, 0, none⟩)) :: (wr.heap.size + 1, .int .i64 (z : Nat)) :: bx) Lh Bf n st t W1 :=
        ((HTH.out.no f1').add cv (fun j hj => by have := hown0 j hj; omega) (by omega)).add cx (fun j hj => by have := hown0 j hj; omega) (by omega)
      have HT1 := hid ht2
      have HB1 := hid (HBX.out.no f1')
      have HBM1 := hid (HBM.out.no f1')
      have HM1 := hid (HMK.out.no f1')
      have HML : Hid (∀ y ∈ ds, y < W1.heap.size) := hid fun y hy => HM1.out.lt hy
      have hfw1 : Fr No w W1 := HTH.out.fr.trans f1'
      have HJ := hid hJ
      have HK := hid hK
      clear hW1 HTH HBX HBM HMK f1' ht2 k7 k9 k10 kb hJ hK
      go_wp2
      refine (wpIn_wide (n := 8)).1 ?_
      refine wpIn_rangeFunc_O rfl (by omega) (gf := f1) (lb := #[.pointer (some ⟨wr.heap.size, 0, none⟩), .pointer (some ⟨wr.heap.size + 1, 0, none⟩)]) rfl trivial HST.out.ent1
        (HST.out.seq z hzn wr.heap.size (wr.heap.size + 1) (fun k => w.heap.size ≤ k ∧ k ≠ wr.heap.size ∧ k ≠ wr.heap.size + 1 ∧ ¬ (W1.heap.size + 2 ≤ k ∧ k < W1.heap.size + 2 + cc z)) (fun k h => h.1) (by omega) (by omega) W1 hfw1 cx cv (W1.heap.size + 2) (fun k h1 h2 h => h.2.2.2 ⟨h1, h2⟩))
        (fun h k => Fr.trans h k) (fun W o o' _ _ _ => fr_putObj W _ o' (by omega)) (Below.refl _ _) (fun _ => rfl)
        (fun pre W => ∃ t', ThM w ((wr.heap.size, .pointer (some ⟨rb, 0, none⟩)) :: (wr.heap.size + 1, .int .i64 (z : Nat)) :: bx) Lh Bf n (rxs d (st, bb) pre).1 t' W ∧ Bx w bx Lh Bf t' b d W ∧ BM w bx Lh Bf Bb Br (w.heap.size + 1) n (rxs d (st, bb) pre).2 t' W ∧ Marks w.heap.size ds W ∧ ∀ j, (Lh.at t').own j → ¬ (W1.heap.size + 2 ≤ j ∧ j < W1.heap.size + 2 + cc z))
        (fun _ _ _ => False)
        (fun pre A B row hs hg hr => by
          obtain ⟨t', h1, h2, h3, h4, h5⟩ := hs
          exact ⟨t', h1.grown hg (fun r e => ⟨by have := (hr r e).1; omega, (hr r e).2⟩), h2.grown hg (fun r e => (hr r e).2), h3.grown hg (fun r e => (hr r e).2), h4.grown HML.out hg (fun r e => (hr r e).1), h5⟩)
        (fun _ _ _ _ _ hs _ _ => hs.elim)
        ⟨t, HT1.out, HB1.out, HBM1.out, HM1.out, fun j hj h => by have := hown0 j hj; omega⟩
        (fun el => { tmps := #[.int .i64 (n : Nat), .int .i64 (s : Nat), .func (.func f) #[.pointer (some ⟨rb, 0, none⟩)] #[], .bool ag, undef, undef, undef, .pointer (some ⟨w.heap.size, 0, none⟩), .pointer (some ⟨w.heap.size + 1, 0, none⟩), .pointer (some ⟨Br, 0, none⟩), .pointer (some ⟨B10, 0, none⟩), .int .i64 0, .int .i64 (z : Nat), .pointer (some ⟨b, 0, none⟩), .bool true, el.1.val, .int .i64 el.1.w, undef, undef, undef, u20, u21, u22, u23, u24, u25, .tuple #[.pointer (some ⟨Lh.b, 0, none⟩), .int .i64 0], .int .i64 (n : Nat), .tuple #[.pointer (some ⟨Lh.b, 0, none⟩), .int .i64 0], .pointer (some ⟨Lh.b, 0, none⟩), .int .i64 0, .pointer (some ⟨Br, 0, none⟩), .slice (some ⟨Bf, 0, none⟩) n n, .int .i64 (s : Nat), .pointer (some ⟨Bf, s, none⟩), .pointer (some ⟨Lh.b, 0, none⟩), .int .i64 (s : Nat), .int .i64 c5, .tuple #[.int .i64 (v : Nat), .int .i64 d1, .bool true], .pointer (some ⟨Lh.b, 0, none⟩), .tuple #[.int .i64 (v : Nat), .int .i64 d1, .bool true], .int .i64 (v : Nat), .int .i64 d1, .bool true, .bool true, u45, u46, u47, u48, u49, u50, .func (.func f) #[.pointer (some ⟨rb, 0, none⟩)] #[], .int .i64 (z : Nat), .func (.func f1) #[] #[.pointer (some ⟨wr.heap.size, 0, none⟩), .pointer (some ⟨wr.heap.size + 1, 0, none⟩)], el.1.val, .int .i64 el.1.w, undef, undef, undef, undef, undef, undef, undef, undef, undef, undef, undef, undef, undef, undef, undef, undef, undef, undef, undef, undef, undef, undef, undef, undef, undef, undef, undef, undef, undef, undef, undef, undef, u88, undef], defers := [] }) ?assign ?body ?done ?stop
      case assign =>
        intro l' el W K' hK'
        unfold stEnc
        gi_wp2
        simpa [stEnc] using hK'
      case stop =>
        rintro D c pre W _ _ h _
        exact h.elim
      case done =>
        rintro D ys W hD rfl ⟨t', h1, h2, h3, h4, h5⟩ hc hKD
        have hbo' : ByOk SL s (rxs d (st, bb) (SL z)).1.far (rxs d (st, bb) (SL z)).2 := ByOk.steps hzn HDB.out (SL z) (st, bb) (fun el hel => ⟨hel, HBDW.out el hel⟩) HBO.out HDZ.out
        have hfst : (rxs d (st, bb) (SL z)).1 = (E z).foldl (relax d) st := by rw [rxs_fst, HE.out z hzn]
        have h1 := h1.drop.drop
        obtain ⟨b', hb'⟩ : ∃ b', (rxs d (st, bb) (SL z)).2 = b' := ⟨_, rfl⟩
        rw [hfst] at h1 hbo'
        rw [hb'] at h3 hbo'
        obtain ⟨s', hs'⟩ : ∃ s', (E z).foldl (relax d) st = s' := ⟨_, rfl⟩
        rw [hs'] at h1 hbo' HGO HMU2
        have hM : Marks w.heap.size (D :: ds) W := h4.cons HML.out hD (by omega) hKD
        have kb := h2.c
        have k10 := h1.box _ M10.out
        simp only at k10
        have H1 := hid h1
        have HB := hid h2
        have HBMD := hid h3
        have HM := hid hM
        have HBOD := hid hbo'
        have hbW := cell_lt kb
        have hb10W := cell_lt k10
        have hK := HK.out
        clear h1 h2 h3 h4 h5 hc hM hs' hb' hfst hbo' cx cv HT1 HB1 HBM1 HM1 hKD HML hown0 hfw1
        go_wp2_with fail
        have hbn := H1.out.box_new d 3
        have hbm8 := HBMD.out.no ((Fr.refl No W).alloc (.cells #[.int .i64 d] 3))
        have hbn8 : W.heap.size ≠ Bb ∧ W.heap.size ≠ w.heap.size + 1 := by
          have h1 := HBMD.out.by_.lt
          have h2 := heap_lt HBMD.out.r8
          omega
        have HT8 := hid hbn.1
        have HB8 := hid hbn.2
        have HBM8 := hid hbm8
        have HBN8 := hid hbn8
        clear hbn hbm8 hbn8
        refine (hpop_calls (L := Lh.at t') HT8.out.bag (by omega)).mono ?_
        intro e W7 hr
        rcases HT8.out.pop hr with ⟨hS, rfl, hf, hth⟩ | ⟨v', t7, hv', hS, rfl, hth, hf, hown⟩
        · have hb7 := HB8.out.no hf
          have hbm7 := HBM8.out.no hf
          have hm7 : Marks w.heap.size (D :: ds) W7 := HM.out.no (((Fr.refl No W).alloc _).trans hf)
          have hset := hth.box_set hb7 0
          have hfs : Fr (One W.heap.size) W7 (W7.setCell ⟨W.heap.size, 0, none⟩ (.int .i64 0)) := (Fr.refl (One W.heap.size) W7).set1 0 (.int .i64 0)
          have hm8 := hm7.fr hfs (fun k o (e : k = W.heap.size) ho => cell_is_cells hb7.c (by rw [e] at ho; exact ho))
          have hbm9 : BM w bx Lh Bf Bb Br (w.heap.size + 1) n b' t' (W7.setCell ⟨W.heap.size, 0, none⟩ (.int .i64 0)) := hbm7.fr hfs (fun (e : Bb = W.heap.size) => HBN8.out.1 e.symm) (fun (e : Br = W.heap.size) => hb7.ne.2 _ M9.out e.symm) (fun (e : w.heap.size + 1 = W.heap.size) => HBN8.out.2 e.symm) (fun j hj => .inl hj)
          have e7 := hb7.c
          have z7 := hb7.z
          have l7 := cell_lt e7
          have HSET := hid hset
          have HM8 := hid hm8
          have HS := hid hS
          have HBM9 := hid hbm9
          clear hset hm8 hr hS hth hf hb7 hm7 hbm7 hbm9 hfs
          go_wp2
          refine Handed.intro (mu n s') HMU2.out (HJ.out _ _ _ ⟨s', b', t', 0, 0, W.heap.size, false, (D :: ds), _, _, _, _, _, _, _, _, _, _, _, ⟨HSET.out.1, HSET.out.2, HBM9.out, HBN8.out, HBOD.out, ⟨fun _ => HGO.out.last HS.out, fun h => (by cases h)⟩, HM8.out⟩, rfl⟩)
        · have hb7 := HB8.out.fr hf (fun ho => HB8.out.own _ ho rfl) (fun j hj => .inl (hown j hj))
          have hbm7 := HBM8.out.fr hf (fun ho => (HBM8.out.own _ ho).1 rfl) (fun ho => (HBM8.out.own _ ho).2.1 rfl) (fun ho => (HBM8.out.own _ ho).2.2 rfl) (fun j hj => .inl (hown j hj))
          have hm7 : Marks w.heap.size (D :: ds) W7 := (HM.out.no ((Fr.refl No W).alloc _)).fr hf (fun k o hk ho => HT8.out.bag.own_cells hk ho)
          obtain ⟨pv, hpv⟩ : ∃ pv, s'.pr v' = pv := ⟨_, rfl⟩
          have hset := hth.box_set hb7 pv
          have hfs : Fr (One W.heap.size) W7 (W7.setCell ⟨W.heap.size, 0, none⟩ (.int .i64 pv)) := (Fr.refl (One W.heap.size) W7).set1 0 (.int .i64 pv)
          have hm8 := hm7.fr hfs (fun k o (e : k = W.heap.size) ho => cell_is_cells hb7.c (by rw [e] at ho; exact ho))
          have hbm9 : BM w bx Lh Bf Bb Br (w.heap.size + 1) n b' t7 (W7.setCell ⟨W.heap.size, 0, none⟩ (.int .i64 pv)) := hbm7.fr hfs (fun (e : Bb = W.heap.size) => HBN8.out.1 e.symm) (fun (e : Br = W.heap.size) => hb7.ne.2 _ M9.out e.symm) (fun (e : w.heap.size + 1 = W.heap.size) => HBN8.out.2 e.symm) (fun j hj => .inl hj)
          have hstep := HGO.out.pop hv' hS
          rw [hpv] at hstep ⊢
          have e7 := hb7.c
          have z7 := hb7.z
          have l7 := cell_lt e7
          have HSET := hid hset
          have HM8 := hid hm8
          have HSTEP := hid hstep
          have HBM9 := hid hbm9
          clear hset hm8 hr hS hth hf hb7 hm7 hstep hown hpv hbm7 hbm9 hfs
          go_wp2
          refine Handed.intro (mu n s') HMU2.out (HJ.out _ _ _ ⟨⟨s'.far, setS s'.S v' false, s'.pr⟩, b', t7, v', pv, W.heap.size, true, (D :: ds), _, _, _, _, _, _, _, _, _, _, _, ⟨HSET.out.1, HSET.out.2, HBM9.out, HBN8.out, HBOD.out, ⟨fun h => (by cases h), fun _ => ⟨hv', HSTEP.out.2.2, HSTEP.out.1, HSTEP.out.2.1⟩⟩, HM8.out⟩, rfl⟩)
      case body =>
        rintro l pre el W hl hloop ⟨t', h1, h2, h3, h4, h5⟩ hlen hsz'
        have k7 := h1.box _ (List.mem_cons_of_mem _ (List.mem_cons_of_mem _ M7.out))
        have k9 := h1.box _ (List.mem_cons_of_mem _ (List.mem_cons_of_mem _ M9.out))
        have k10 := h1.box _ (List.mem_cons_of_mem _ (List.mem_cons_of_mem _ M10.out))
        have kb := h2.c
        simp only at k7 k9 k10
        have hsn := rxs_snoc d (st, bb) pre el
        have HSN := hid hsn
        have H1 := hid h1
        have H2 := hid h2
        have H3 := hid h3
        have H4 := hid h4
        have H5 := hid h5
        obtain ⟨⟨es, hk0, hk1⟩, hel⟩ : ∃ e', el = e' := ⟨_, rfl⟩
        rw [hel]
        rw [hel] at HSN
        clear h1 h2 h3 h4 h5 hloop cx cv HT1 HB1 HBM1 HM1 hsn HGO HMU2 HJ HK hfw1 hel
        obtain ⟨Ty, inn, fE, hval, hmeth, hent, hends⟩ := es.ends_is
        obtain ⟨ea, hea⟩ : ∃ a, es.fr = a := ⟨_, rfl⟩
        obtain ⟨eb, heb⟩ : ∃ a, es.to = a := ⟨_, rfl⟩
        obtain ⟨y, hy⟩ := Int.eq_ofNat_of_zero_le hk0
        obtain ⟨g, hg⟩ : ∃ g, es.w = g := ⟨_, rfl⟩
        have hyn : y < n := by omega
        have hyn2 : (y : Int) < n := by omega
        have hkey : (if ag then ea else eb) = (y : Nat) := by rw [← hea, ← heb]; exact hy
        have HKEY := hid hkey
        have HY := hid hy
        have HG := hid hg
        have HV := hid hval
        have HENDS := hid hends
        have HENT := hid hent
        rw [hea, heb] at HENDS
        simp only [hval, hg]
        clear hkey hy hg hval hends hea heb hent
        gi_wp2_with fail
        rw [HENT.out]
        refine ⟨trivial, ?_⟩
        simp only [Oper.uponIn]
        refine ⟨fun _ => by omega, CallsIn.inRound l (callsIn_wide.2 ((HENDS.out W).mono ?_))⟩
        rintro e V1 ⟨rfl, hf1⟩
        have F1 := hid hf1
        have k7 := hf1.cell_some k7 (fun h => h)
        have k9 := hf1.cell_some k9 (fun h => h)
        have k10 := hf1.cell_some k10 (fun h => h)
        have kb := hf1.cell_some kb (fun h => h)
        have l7 := cell_lt k7
        have lb := cell_lt kb
        clear hf1 HENDS HENT hmeth
        cases ag with
        | false =>
          obtain rfl : eb = (y : Nat) := HKEY.out
          gi_wp2_with fail
          obtain ⟨sm, hsm⟩ : ∃ sm, ad d g = sm := ⟨_, rfl⟩
          have HSM := hid hsm
          refine ⟨trivial, CallsIn.inRound l (callsIn_wide.2 ((adl_calls d g (some ⟨V1.heap.size, 0, none⟩) 2 _ (fun _ => ⟨_, 0, rfl, by intro j hj; (have : j = 0 ∨ j = 1 := by omega); rcases this with rfl | rfl <;> simp [go_sem, pfM]⟩)).mono ?_))⟩
          rw [hsm]
          clear hsm
          rintro e W2 ⟨rfl, hf2⟩
          have f12 : Fr No V1 W2 := ((Fr.refl No V1).alloc _).trans hf2
          have F2 := hid (F1.out.trans f12)
          have j9 := f12.cell_some k9 (fun h => h)
          have j10 := f12.cell_some k10 (fun h => h)
          have HT2 := hid (H1.out.no F2.out)
          have HBM2 := hid (H3.out.no F2.out)
          have j1 := HBM2.out.r1
          have bf := HT2.out.far.cell hyn
          have bfz := HT2.out.far.frozen y
          have bc := HBM2.out.by_.cell hyn
          have bcz := HBM2.out.by_.frozen y
          have l9 := cell_lt j9
          have l10 := cell_lt j10
          have lf := HT2.out.far.lt
          have lbb := HBM2.out.by_.lt
          have nbb := HBM2.out.ne
          obtain ⟨nb1, nb2, nb3, nb4, nb5, nb6, _⟩ := nbb
          have nb1' : Bf ≠ Bb := fun e => nb1 e.symm
          have nb2' : Br ≠ Bb := fun e => nb2 e.symm
          have nb3' : Br ≠ Bf := fun e => nb3 e.symm
          obtain ⟨fv, hfv⟩ : ∃ fv, (rxs d (st, bb) pre).1.far y = fv := ⟨_, rfl⟩
          rw [hfv] at bf
          obtain ⟨bv, hbv⟩ : ∃ bv, byV ((rxs d (st, bb) pre).2 y) = bv := ⟨_, rfl⟩
          rw [hbv] at bc
          have HFV := hid hfv
          have n10 : Bf ≠ B10 := H1.out.sep.2 _ (List.mem_cons_of_mem _ (List.mem_cons_of_mem _ M10.out))
          have n10b : Bb ≠ B10 := H3.out.ne.2.2.2.2.2.2 _ M10.out
          have n10' : B10 ≠ Bf := fun e => n10 e.symm
          have n10b' : B10 ≠ Bb := fun e => n10b e.symm
          clear hf2 f12 k9 k10 kb hfv hbv k7
          by_cases hlt : sm < fv
          · have HLT := hid hlt
            have g1 : decide (sm < fv) = true := by simp; exact hlt
            gi_wp2_with fail
            refine wpIn_region_held (S := fun w' => w'.cell? ⟨Br, 0, none⟩ = some (.slice (some ⟨Bf, 0, none⟩) n n) ∧ w'.cell? ⟨Br, 1, none⟩ = some (.slice (some ⟨Bb, 0, none⟩) n n)) (by kernel_rfl) (by kernel_rfl) ⟨j9, j1⟩ ?_
            intro hS
            refine heldTake0 (v := .pointer (some ⟨Br, 0, none⟩)) (by kernel_rfl) (by kernel_rfl) (by kernel_rfl) (fun _ _ _ h => h) ⟨by rfl, fun w' hw => ?_⟩ hS ?_
            · obtain ⟨v1, v2⟩ := hw
              go_simp
            try simp only [Act.put, List.setIfInBounds_toArray, List.set_cons_zero, List.set_cons_succ]
            refine heldTake1 (v := .slice (some ⟨Bf, 0, none⟩) n n) (by kernel_rfl) (by kernel_rfl) (by kernel_rfl) (fun _ _ _ h => h) ⟨by rfl, fun w' hw => ?_⟩ hS ?_
            · obtain ⟨v1, v2⟩ := hw
              go_simp
            try simp only [Act.put, List.setIfInBounds_toArray, List.set_cons_zero, List.set_cons_succ]
            refine heldTake2 (v := .int .i64 (y : Nat)) (by kernel_rfl) (by kernel_rfl) (by kernel_rfl) (fun _ _ _ h => h) ⟨by rfl, fun w' hw => ?_⟩ hS ?_
            · obtain ⟨v1, v2⟩ := hw
              go_simp
            try simp only [Act.put, List.setIfInBounds_toArray, List.set_cons_zero, List.set_cons_succ]
            refine heldTake3 (v := .pointer (some ⟨Br, 1, none⟩)) (by kernel_rfl) (by kernel_rfl) (by kernel_rfl) (fun _ _ _ h => h) ⟨by rfl, fun w' hw => ?_⟩ hS ?_
            · obtain ⟨v1, v2⟩ := hw
              go_simp
            try simp only [Act.put, List.setIfInBounds_toArray, List.set_cons_zero, List.set_cons_succ]
            refine heldTake4 (v := .slice (some ⟨Bb, 0, none⟩) n n) (by kernel_rfl) (by kernel_rfl) (by kernel_rfl) (fun _ _ _ h => h) ⟨by rfl, fun w' hw => ?_⟩ hS ?_
            · obtain ⟨v1, v2⟩ := hw
              go_simp
            try simp only [Act.put, List.setIfInBounds_toArray, List.set_cons_zero, List.set_cons_succ]
            refine heldTake5 (v := .int .i64 (y : Nat)) (by kernel_rfl) (by kernel_rfl) (by kernel_rfl) (fun _ _ _ h => h) ⟨by rfl, fun w' hw => ?_⟩ hS ?_
            · obtain ⟨v1, v2⟩ := hw
              go_simp
            try simp only [Act.put, List.setIfInBounds_toArray, List.set_cons_zero, List.set_cons_succ]
            refine heldTake6 (v := .int .i64 sm) (by kernel_rfl) (by kernel_rfl) (by kernel_rfl) (fun _ _ _ h => h) ⟨by rfl, fun w' hw => ?_⟩ hS ?_
            · obtain ⟨v1, v2⟩ := hw
              go_simp
            try simp only [Act.put, List.setIfInBounds_toArray, List.set_cons_zero, List.set_cons_succ]
            refine heldTake7 (v := .iface Ty inn) (by kernel_rfl) (by kernel_rfl) (by kernel_rfl) (fun _ _ _ h => h) ⟨by rfl, fun w' hw => ?_⟩ hS ?_
            · obtain ⟨v1, v2⟩ := hw
              go_simp
            try simp only [Act.put, List.setIfInBounds_toArray, List.set_cons_zero, List.set_cons_succ]
            refine heldTake8 (v := .pointer (some ⟨Bf, y, none⟩)) (by kernel_rfl) (by kernel_rfl) (by kernel_rfl) (fun _ _ _ h => h) ⟨by rfl, fun w' hw => ?_⟩ hS ?_
            · obtain ⟨v1, v2⟩ := hw
              go_simp
            try simp only [Act.put, List.setIfInBounds_toArray, List.set_cons_zero, List.set_cons_succ]
            refine heldOp9 (by kernel_rfl) (fun K' hK => ?_)
            · go_simp
              refine hK.out _ _ ⟨by first | exact hS.1 | (simp [go_sem, hS.1, nb2', nb3']; done) | exact (((Fr.refl (One Bf) _).set1 y _).cell_some hS.1 nb3') | exact (((Fr.refl (One Bb) _).set1 y _).cell_some hS.1 nb2'), by first | (simp [go_sem, hS.2, nb2', nb3']; done) | exact (((Fr.refl (One Bf) _).set1 y _).cell_some hS.2 nb3') | exact (((Fr.refl (One Bb) _).set1 y _).cell_some hS.2 nb2')⟩ (fun hS => ?_)
              clear hK K'
              try simp only [Act.put, List.setIfInBounds_toArray, List.set_cons_zero, List.set_cons_succ]
              refine heldTake10 (v := .pointer (some ⟨Bb, y, none⟩)) (by kernel_rfl) (by kernel_rfl) (by kernel_rfl) (fun _ _ _ h => h) ⟨by rfl, fun w' hw => ?_⟩ hS ?_
              · obtain ⟨v1, v2⟩ := hw
                go_simp
              try simp only [Act.put, List.setIfInBounds_toArray, List.set_cons_zero, List.set_cons_succ]
              refine heldOp11 (by kernel_rfl) (fun K' hK => ?_)
              go_simp
              refine hK.out _ _ ⟨by first | exact hS.1 | (simp [go_sem, hS.1, nb2', nb3']; done) | exact (((Fr.refl (One Bf) _).set1 y _).cell_some hS.1 nb3') | exact (((Fr.refl (One Bb) _).set1 y _).cell_some hS.1 nb2'), by first | (simp [go_sem, hS.2, nb2', nb3']; done) | exact (((Fr.refl (One Bf) _).set1 y _).cell_some hS.2 nb3') | exact (((Fr.refl (One Bb) _).set1 y _).cell_some hS.2 nb2')⟩ (fun hS => ?_)
              clear hK K'
              try simp only [Act.put, List.setIfInBounds_toArray, List.set_cons_zero, List.set_cons_succ]
              refine wpAnyH_done (by kernel_rfl) ?_ _
              simp only [sureQ, Exit.then]
              have hset := HT2.out.set y sm
              have hs4 := hset.1.frB (F := One Bb) ((Fr.refl _ _).set1 y es.val) (fun x hx e => by
                rcases List.mem_cons.1 hx with rfl | hx
                · have e : wr.heap.size = Bb := e
                  omega
                · rcases List.mem_cons.1 hx with rfl | hx
                  · have e : wr.heap.size + 1 = Bb := e
                    omega
                  · exact HBM2.out.ne.2.2.2.2.2.2 x hx e.symm) (fun (e : Bf = Bb) => HBM2.out.ne.1 e.symm) (fun j hj e => (HBM2.out.own j hj).1 e) (fun k (e : k = Bb) => by have := H3.out.ge; omega)
              have hb4 := (HBM2.out.fr hset.2 (fun (e : Bb = Bf) => HBM2.out.ne.1 e) (fun (e : Br = Bf) => HBM2.out.ne.2.2.1 e.symm) (fun (e : w.heap.size + 1 = Bf) => HBM2.out.ne.2.2.2.1 e) (fun j hj => .inl hj) : BM w bx Lh Bf Bb Br (w.heap.size + 1) n (rxs d (st, bb) pre).2 t' _).set y es
              have hf4 : Fr (fun k => k = Bf ∨ k = Bb) W2 ((W2.setCell ⟨Bf, y, none⟩ (.int .i64 sm)).setCell ⟨Bb, y, none⟩ es.val) := (hset.2.mono (fun k _ (e : k = Bf) => .inl e)).trans (((Fr.refl (One Bb) _).set1 y es.val).mono (fun k _ (e : k = Bb) => .inr e))
              rw [HV.out] at hs4 hb4 hf4
              have HS4 := hid (hs4.no ((Fr.refl No _).drew))
              have HB4 := hid (hb4.no ((Fr.refl No _).drew))
              have HF4 := hid hf4.drew
              clear hs4 hb4 hf4 hS
              gi_wp2_with fail
              refine ⟨trivial, CallsIn.inRound l (callsIn_wide.2 ((hput_calls (L := Lh.at t') HS4.out.bag y sm hyn (by omega)).mono ?_))⟩
              intro e W5 hr
              obtain ⟨t5', c', rfl, hth5, hf5, ho5⟩ := HS4.out.put hr
              have hsz4 := Nat.le_trans F2.out.size HF4.out.size
              have hfin : Fr (fun k => k = Bf ∨ k = Bb ∨ (Lh.at t').own k) W W5 := (F2.out.no).trans ((HF4.out.mono (fun k _ e => by rcases e with e | e; exact .inl e; exact .inr (.inl e))).trans (hf5.mono (fun k _ hk => .inr (.inr hk))))
              have hcl : ∀ k o, (k = Bf ∨ k = Bb ∨ (Lh.at t').own k) → W.heap[k]? = some o → o.isCells = true := fun k o hk ho => by
                rcases hk with rfl | rfl | hk
                · exact H1.out.far.is_cells ho
                · exact H3.out.by_.is_cells ho
                · exact H1.out.bag.own_cells hk ho
              have ho5' : ∀ j, (Lh.at t5').own j → (Lh.at t').own j ∨ W.heap.size ≤ j := fun j hj => by
                rcases ho5 j hj with e | e
                · exact .inl e
                · exact .inr (by omega)
              have hb5 : Bx w bx Lh Bf t5' b d W5 := H2.out.fr hfin (fun hk => by
                rcases hk with e | e | hk
                · exact H2.out.ne.1 e
                · exact HBN.out.1 e
                · exact H2.out.own _ hk rfl) ho5'
              have hbm5 := HB4.out.fr hf5 (fun hk => (HB4.out.own _ hk).1 rfl) (fun hk => (HB4.out.own _ hk).2.1 rfl) (fun hk => (HB4.out.own _ hk).2.2 rfl) ho5
              have hm5 := H4.out.fr hfin hcl
              have hnear : ad d es.w < (rxs d (st, bb) pre).1.far (es.key false).toNat := by rw [HG.out, HY.out, Int.toNat_natCast, HFV.out, HSM.out]; exact HLT.out
              have hr5 : ThM w ((wr.heap.size, .pointer (some ⟨rb, 0, none⟩)) :: (wr.heap.size + 1, .int .i64 (z : Nat)) :: bx) Lh Bf n (rxs d (st, bb) (pre ++ [⟨es, hk0, hk1⟩])).1 t5' W5 := by
                rw [HSN.out, rxb_near hnear, HG.out, HY.out, Int.toNat_natCast, HSM.out]
                exact hth5
              have hbm6 : BM w bx Lh Bf Bb Br (w.heap.size + 1) n (rxs d (st, bb) (pre ++ [⟨es, hk0, hk1⟩])).2 t5' W5 := by
                rw [HSN.out, rxb_near hnear, HY.out, Int.toNat_natCast]
                exact hbm5
              have hKp : Fr (fun k => w.heap.size ≤ k ∧ k ≠ wr.heap.size ∧ k ≠ wr.heap.size + 1 ∧ ¬ (W1.heap.size + 2 ≤ k ∧ k < W1.heap.size + 2 + cc z)) W W5 := hfin.mono (fun k _ hk => by
                rcases hk with rfl | rfl | hk
                · have := H1.out.sep.1
                  exact ⟨this, by omega, by omega, by omega⟩
                · have := H3.out.ge
                  exact ⟨this, by omega, by omega, by omega⟩
                · have := H1.out.own _ hk
                  exact ⟨this.1, this.2.2 _ (List.mem_cons_self), this.2.2 _ (List.mem_cons_of_mem _ (List.mem_cons_self)), H5.out _ hk⟩)
              have h55 : ∀ j, (Lh.at t5').own j → ¬ (W1.heap.size + 2 ≤ j ∧ j < W1.heap.size + 2 + cc z) := fun j hj => by
                rcases ho5' j hj with e | e
                · exact H5.out j e
                · omega
              have HFIN := hid hfin
              have HCL := hid hcl
              have HB5 := hid hb5
              have HBM6 := hid hbm6
              have HM5 := hid hm5
              have HR5 := hid hr5
              have HKP := hid hKp
              have H55 := hid h55
              clear hfin hcl hb5 hm5 hr5 hth5 hf5 ho5 hr hsz4 hKp hbm5 hbm6 hnear ho5' h55
              gi_wp2
              exact ⟨keepsFrom_cells HFIN.out HCL.out, HKP.out, t5', HR5.out, HB5.out, HBM6.out, HM5.out, H55.out⟩
          · have HLT := hid hlt
            have g1 : decide (sm < fv) = false := by simp; omega
            gi_wp2
            have hfin := F2.out
            have hnot : ¬ ad d es.w < (rxs d (st, bb) pre).1.far (es.key false).toNat := by rw [HG.out, HY.out, Int.toNat_natCast, HFV.out, HSM.out]; have := HLT.out; omega
            exact ⟨keepsFrom_cells hfin (fun _ _ h => h.elim), hfin.no, t', by rw [HSN.out, rxb_far hnot]; exact H1.out.no hfin, H2.out.no hfin, by rw [HSN.out, rxb_far hnot]; exact H3.out.no hfin, H4.out.no hfin, H5.out⟩
        | true =>
          obtain rfl : ea = (y : Nat) := HKEY.out
          gi_wp2_with fail
          obtain ⟨sm, hsm⟩ : ∃ sm, ad d g = sm := ⟨_, rfl⟩
          have HSM := hid hsm
          refine ⟨trivial, CallsIn.inRound l (callsIn_wide.2 ((adl_calls d g (some ⟨V1.heap.size, 0, none⟩) 2 _ (fun _ => ⟨_, 0, rfl, by intro j hj; (have : j = 0 ∨ j = 1 := by omega); rcases this with rfl | rfl <;> simp [go_sem, pfM]⟩)).mono ?_))⟩
          rw [hsm]
          clear hsm
          rintro e W2 ⟨rfl, hf2⟩
          have f12 : Fr No V1 W2 := ((Fr.refl No V1).alloc _).trans hf2
          have F2 := hid (F1.out.trans f12)
          have j9 := f12.cell_some k9 (fun h => h)
          have j10 := f12.cell_some k10 (fun h => h)
          have HT2 := hid (H1.out.no F2.out)
          have HBM2 := hid (H3.out.no F2.out)
          have j1 := HBM2.out.r1
          have bf := HT2.out.far.cell hyn
          have bfz := HT2.out.far.frozen y
          have bc := HBM2.out.by_.cell hyn
          have bcz := HBM2.out.by_.frozen y
          have l9 := cell_lt j9
          have l10 := cell_lt j10
          have lf := HT2.out.far.lt
          have lbb := HBM2.out.by_.lt
          have nbb := HBM2.out.ne
          obtain ⟨nb1, nb2, nb3, nb4, nb5, nb6, _⟩ := nbb
          have nb1' : Bf ≠ Bb := fun e => nb1 e.symm
          have nb2' : Br ≠ Bb := fun e => nb2 e.symm
          have nb3' : Br ≠ Bf := fun e => nb3 e.symm
          obtain ⟨fv, hfv⟩ : ∃ fv, (rxs d (st, bb) pre).1.far y = fv := ⟨_, rfl⟩
          rw [hfv] at bf
          obtain ⟨bv, hbv⟩ : ∃ bv, byV ((rxs d (st, bb) pre).2 y) = bv := ⟨_, rfl⟩
          rw [hbv] at bc
          have HFV := hid hfv
          have n10 : Bf ≠ B10 := H1.out.sep.2 _ (List.mem_cons_of_mem _ (List.mem_cons_of_mem _ M10.out))
          have n10b : Bb ≠ B10 := H3.out.ne.2.2.2.2.2.2 _ M10.out
          have n10' : B10 ≠ Bf := fun e => n10 e.symm
          have n10b' : B10 ≠ Bb := fun e => n10b e.symm
          clear hf2 f12 k9 k10 kb hfv hbv k7
          by_cases hlt : sm < fv
          · have HLT := hid hlt
            have g1 : decide (sm < fv) = true := by simp; exact hlt
            gi_wp2_with fail
            refine wpIn_region_held (S := fun w' => w'.cell? ⟨Br, 0, none⟩ = some (.slice (some ⟨Bf, 0, none⟩) n n) ∧ w'.cell? ⟨Br, 1, none⟩ = some (.slice (some ⟨Bb, 0, none⟩) n n)) (by kernel_rfl) (by kernel_rfl) ⟨j9, j1⟩ ?_
            intro hS
            refine heldTake0 (v := .pointer (some ⟨Br, 0, none⟩)) (by kernel_rfl) (by kernel_rfl) (by kernel_rfl) (fun _ _ _ h => h) ⟨by rfl, fun w' hw => ?_⟩ hS ?_
            · obtain ⟨v1, v2⟩ := hw
              go_simp
            try simp only [Act.put, List.setIfInBounds_toArray, List.set_cons_zero, List.set_cons_succ]
            refine heldTake1 (v := .slice (some ⟨Bf, 0, none⟩) n n) (by kernel_rfl) (by kernel_rfl) (by kernel_rfl) (fun _ _ _ h => h) ⟨by rfl, fun w' hw => ?_⟩ hS ?_
            · obtain ⟨v1, v2⟩ := hw
              go_simp
            try simp only [Act.put, List.setIfInBounds_toArray, List.set_cons_zero, List.set_cons_succ]
            refine heldTake2 (v := .int .i64 (y : Nat)) (by kernel_rfl) (by kernel_rfl) (by kernel_rfl) (fun _ _ _ h => h) ⟨by rfl, fun w' hw => ?_⟩ hS ?_
            · obtain ⟨v1, v2⟩ := hw
              go_simp
            try simp only [Act.put, List.setIfInBounds_toArray, List.set_cons_zero, List.set_cons_succ]
            refine heldTake3 (v := .pointer (some ⟨Br, 1, none⟩)) (by kernel_rfl) (by kernel_rfl) (by kernel_rfl) (fun _ _ _ h => h) ⟨by rfl, fun w' hw => ?_⟩ hS ?_
            · obtain ⟨v1, v2⟩ := hw
              go_simp
            try simp only [Act.put, List.setIfInBounds_toArray, List.set_cons_zero, List.set_cons_succ]
            refine heldTake4 (v := .slice (some ⟨Bb, 0, none⟩) n n) (by kernel_rfl) (by kernel_rfl) (by kernel_rfl) (fun _ _ _ h => h) ⟨by rfl, fun w' hw => ?_⟩ hS ?_
            · obtain ⟨v1, v2⟩ := hw
              go_simp
            try simp only [Act.put, List.setIfInBounds_toArray, List.set_cons_zero, List.set_cons_succ]
            refine heldTake5 (v := .int .i64 (y : Nat)) (by kernel_rfl) (by kernel_rfl) (by kernel_rfl) (fun _ _ _ h => h) ⟨by rfl, fun w' hw => ?_⟩ hS ?_
            · obtain ⟨v1, v2⟩ := hw
              go_simp
            try simp only [Act.put, List.setIfInBounds_toArray, List.set_cons_zero, List.set_cons_succ]
            refine heldTake6 (v := .int .i64 sm) (by kernel_rfl) (by kernel_rfl) (by kernel_rfl) (fun _ _ _ h => h) ⟨by rfl, fun w' hw => ?_⟩ hS ?_
            · obtain ⟨v1, v2⟩ := hw
              go_simp
            try simp only [Act.put, List.setIfInBounds_toArray, List.set_cons_zero, List.set_cons_succ]
            refine heldTake7 (v := .iface Ty inn) (by kernel_rfl) (by kernel_rfl) (by kernel_rfl) (fun _ _ _ h => h) ⟨by rfl, fun w' hw => ?_⟩ hS ?_
            · obtain ⟨v1, v2⟩ := hw
              go_simp
            try simp only [Act.put, List.setIfInBounds_toArray, List.set_cons_zero, List.set_cons_succ]
            refine heldTake8 (v := .pointer (some ⟨Bf, y, none⟩)) (by kernel_rfl) (by kernel_rfl) (by kernel_rfl) (fun _ _ _ h => h) ⟨by rfl, fun w' hw => ?_⟩ hS ?_
            · obtain ⟨v1, v2⟩ := hw
              go_simp
            try simp only [Act.put, List.setIfInBounds_toArray, List.set_cons_zero, List.set_cons_succ]
            refine heldOp9 (by kernel_rfl) (fun K' hK => ?_)
            · go_simp
              refine hK.out _ _ ⟨by first | exact hS.1 | (simp [go_sem, hS.1, nb2', nb3']; done) | exact (((Fr.refl (One Bf) _).set1 y _).cell_some hS.1 nb3') | exact (((Fr.refl (One Bb) _).set1 y _).cell_some hS.1 nb2'), by first | (simp [go_sem, hS.2, nb2', nb3']; done) | exact (((Fr.refl (One Bf) _).set1 y _).cell_some hS.2 nb3') | exact (((Fr.refl (One Bb) _).set1 y _).cell_some hS.2 nb2')⟩ (fun hS => ?_)
              clear hK K'
              try simp only [Act.put, List.setIfInBounds_toArray, List.set_cons_zero, List.set_cons_succ]
              refine heldTake10 (v := .pointer (some ⟨Bb, y, none⟩)) (by kernel_rfl) (by kernel_rfl) (by kernel_rfl) (fun _ _ _ h => h) ⟨by rfl, fun w' hw => ?_⟩ hS ?_
              · obtain ⟨v1, v2⟩ := hw
                go_simp
              try simp only [Act.put, List.setIfInBounds_toArray, List.set_cons_zero, List.set_cons_succ]
              refine heldOp11 (by kernel_rfl) (fun K' hK => ?_)
              go_simp
              refine hK.out _ _ ⟨by first | exact hS.1 | (simp [go_sem, hS.1, nb2', nb3']; done) | exact (((Fr.refl (One Bf) _).set1 y _).cell_some hS.1 nb3') | exact (((Fr.refl (One Bb) _).set1 y _).cell_some hS.1 nb2'), by first | (simp [go_sem, hS.2, nb2', nb3']; done) | exact (((Fr.refl (One Bf) _).set1 y _).cell_some hS.2 nb3') | exact (((Fr.refl (One Bb) _).set1 y _).cell_some hS.2 nb2')⟩ (fun hS => ?_)
              clear hK K'
              try simp only [Act.put, List.setIfInBounds_toArray, List.set_cons_zero, List.set_cons_succ]
              refine wpAnyH_done (by kernel_rfl) ?_ _
              simp only [sureQ, Exit.then]
              have hset := HT2.out.set y sm
              have hs4 := hset.1.frB (F := One Bb) ((Fr.refl _ _).set1 y es.val) (fun x hx e => by
                rcases List.mem_cons.1 hx with rfl | hx
                · have e : wr.heap.size = Bb := e
                  omega
                · rcases List.mem_cons.1 hx with rfl | hx
                  · have e : wr.heap.size + 1 = Bb := e
                    omega
                  · exact HBM2.out.ne.2.2.2.2.2.2 x hx e.symm) (fun (e : Bf = Bb) => HBM2.out.ne.1 e.symm) (fun j hj e => (HBM2.out.own j hj).1 e) (fun k (e : k = Bb) => by have := H3.out.ge; omega)
              have hb4 := (HBM2.out.fr hset.2 (fun (e : Bb = Bf) => HBM2.out.ne.1 e) (fun (e : Br = Bf) => HBM2.out.ne.2.2.1 e.symm) (fun (e : w.heap.size + 1 = Bf) => HBM2.out.ne.2.2.2.1 e) (fun j hj => .inl hj) : BM w bx Lh Bf Bb Br (w.heap.size + 1) n (rxs d (st, bb) pre).2 t' _).set y es
              have hf4 : Fr (fun k => k = Bf ∨ k = Bb) W2 ((W2.setCell ⟨Bf, y, none⟩ (.int .i64 sm)).setCell ⟨Bb, y, none⟩ es.val) := (hset.2.mono (fun k _ (e : k = Bf) => .inl e)).trans (((Fr.refl (One Bb) _).set1 y es.val).mono (fun k _ (e : k = Bb) => .inr e))
              rw [HV.out] at hs4 hb4 hf4
              have HS4 := hid (hs4.no ((Fr.refl No _).drew))
              have HB4 := hid (hb4.no ((Fr.refl No _).drew))
              have HF4 := hid hf4.drew
              clear hs4 hb4 hf4 hS
              gi_wp2_with fail
              refine ⟨trivial, CallsIn.inRound l (callsIn_wide.2 ((hput_calls (L := Lh.at t') HS4.out.bag y sm hyn (by omega)).mono ?_))⟩
              intro e W5 hr
              obtain ⟨t5', c', rfl, hth5, hf5, ho5⟩ := HS4.out.put hr
              have hsz4 := Nat.le_trans F2.out.size HF4.out.size
              have hfin : Fr (fun k => k = Bf ∨ k = Bb ∨ (Lh.at t').own k) W W5 := (F2.out.no).trans ((HF4.out.mono (fun k _ e => by rcases e with e | e; exact .inl e; exact .inr (.inl e))).trans (hf5.mono (fun k _ hk => .inr (.inr hk))))
              have hcl : ∀ k o, (k = Bf ∨ k = Bb ∨ (Lh.at t').own k) → W.heap[k]? = some o → o.isCells = true := fun k o hk ho => by
                rcases hk with rfl | rfl | hk
                · exact H1.out.far.is_cells ho
                · exact H3.out.by_.is_cells ho
                · exact H1.out.bag.own_cells hk ho
              have ho5' : ∀ j, (Lh.at t5').own j → (Lh.at t').own j ∨ W.heap.size ≤ j := fun j hj => by
                rcases ho5 j hj with e | e
                · exact .inl e
                · exact .inr (by omega)
              have hb5 : Bx w bx Lh Bf t5' b d W5 := H2.out.fr hfin (fun hk => by
                rcases hk with e | e | hk
                · exact H2.out.ne.1 e
                · exact HBN.out.1 e
                · exact H2.out.own _ hk rfl) ho5'
              have hbm5 := HB4.out.fr hf5 (fun hk => (HB4.out.own _ hk).1 rfl) (fun hk => (HB4.out.own _ hk).2.1 rfl) (fun hk => (HB4.out.own _ hk).2.2 rfl) ho5
              have hm5 := H4.out.fr hfin hcl
              have hnear : ad d es.w < (rxs d (st, bb) pre).1.far (es.key true).toNat := by rw [HG.out, HY.out, Int.toNat_natCast, HFV.out, HSM.out]; exact HLT.out
              have hr5 : ThM w ((wr.heap.size, .pointer (some ⟨rb, 0, none⟩)) :: (wr.heap.size + 1, .int .i64 (z : Nat)) :: bx) Lh Bf n (rxs d (st, bb) (pre ++ [⟨es, hk0, hk1⟩])).1 t5' W5 := by
                rw [HSN.out, rxb_near hnear, HG.out, HY.out, Int.toNat_natCast, HSM.out]
                exact hth5
              have hbm6 : BM w bx Lh Bf Bb Br (w.heap.size + 1) n (rxs d (st, bb) (pre ++ [⟨es, hk0, hk1⟩])).2 t5' W5 := by
                rw [HSN.out, rxb_near hnear, HY.out, Int.toNat_natCast]
                exact hbm5
              have hKp : Fr (fun k => w.heap.size ≤ k ∧ k ≠ wr.heap.size ∧ k ≠ wr.heap.size + 1 ∧ ¬ (W1.heap.size + 2 ≤ k ∧ k < W1.heap.size + 2 + cc z)) W W5 := hfin.mono (fun k _ hk => by
                rcases hk with rfl | rfl | hk
                · have := H1.out.sep.1
                  exact ⟨this, by omega, by omega, by omega⟩
                · have := H3.out.ge
                  exact ⟨this, by omega, by omega, by omega⟩
                · have := H1.out.own _ hk
                  exact ⟨this.1, this.2.2 _ (List.mem_cons_self), this.2.2 _ (List.mem_cons_of_mem _ (List.mem_cons_self)), H5.out _ hk⟩)
              have h55 : ∀ j, (Lh.at t5').own j → ¬ (W1.heap.size + 2 ≤ j ∧ j < W1.heap.size + 2 + cc z) := fun j hj => by
                rcases ho5' j hj with e | e
                · exact H5.out j e
                · omega
              have HFIN := hid hfin
              have HCL := hid hcl
              have HB5 := hid hb5
              have HBM6 := hid hbm6
              have HM5 := hid hm5
              have HR5 := hid hr5
              have HKP := hid hKp
              have H55 := hid h55
              clear hfin hcl hb5 hm5 hr5 hth5 hf5 ho5 hr hsz4 hKp hbm5 hbm6 hnear ho5' h55
              gi_wp2
              exact ⟨keepsFrom_cells HFIN.out HCL.out, HKP.out, t5', HR5.out, HB5.out, HBM6.out, HM5.out, H55.out⟩
          · have HLT := hid hlt
            have g1 : decide (sm < fv) = false := by simp; omega
            gi_wp2
            have hfin := F2.out
            have hnot : ¬ ad d es.w < (rxs d (st, bb) pre).1.far (es.key true).toNat := by rw [HG.out, HY.out, Int.toNat_natCast, HFV.out, HSM.out]; have := HLT.out; omega
            exact ⟨keepsFrom_cells hfin (fun _ _ h => h.elim), hfin.no, t', by rw [HSN.out, rxb_far hnot]; exact H1.out.no hfin, H2.out.no hfin, by rw [HSN.out, rxb_far hnot]; exact H3.out.no hfin, H4.out.no hfin, H5.out⟩

end Go.Proofs.YtoepbhacpidcbaaGreatDoor
