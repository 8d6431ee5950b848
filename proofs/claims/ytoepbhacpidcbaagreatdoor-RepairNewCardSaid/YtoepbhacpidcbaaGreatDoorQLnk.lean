/- Rows of links that are one's own: read, lengthened. -/
import Derived.Lib.SliceRun
import Derived.Test.YtoepbhacpidcbaaGreatDoorQBase
import Derived.Test.YtoepbhacpidcbaaGreatDoorQIdx
import Derived.Test.YtoepbhacpidcbaaGreatDoorQPerm
import Derived.Test.YtoepbhacpidcbaaGreatDoorQIdxB
import Derived.Test.YtoepbhacpidcbaaGreatDoorQRef
import Derived.Test.YtoepbhacpidcbaaGreatDoorQUnref
import Derived.Test.YtoepbhacpidcbaaGreatDoorQUnE

set_option linter.unusedVariables false
set_option linter.unusedSimpArgs false
namespace Go.Proofs.YtoepbhacpidcbaaGreatDoor
open Go.RowKit Go.Deep

def Lk.cl (l : Lk) : List Value := [.int .i64 l.t, .int .i64 l.h, .int .i64 l.e.w, .int .i64 l.e.a, .int .i64 l.e.m]
def lkCells (l : List Lk) : List Value := l.flatMap Lk.cl
def Lk.zero : Lk := ⟨0, 0, ⟨0, 0, 0⟩⟩

theorem info_lk : (Tryz.prog.info? 120).map (fun i => (i.zero, i.size, i.bytes)) = some (some (.agg #[.int .i64 0, .int .i64 0, .int .i64 0, .int .i64 0, .int .i64 0]), 5, 40) := by kernel_rfl
theorem i_lk : ∃ i, Tryz.prog.info? 120 = some i ∧ i.zero = some (.agg #[.int .i64 0, .int .i64 0, .int .i64 0, .int .i64 0, .int .i64 0]) ∧ i.size = 5 ∧ i.bytes = 40 := by
  obtain ⟨i, hi, h⟩ := Option.map_eq_some_iff.1 info_lk
  simp only [Prod.mk.injEq] at h
  exact ⟨i, hi, h.1, h.2.1, h.2.2⟩

theorem lkCells_app (l : List Lk) (y : Lk) : lkCells (l ++ [y]) = lkCells l ++ y.cl := by simp [lkCells]
theorem lkCells_at (l : List Lk) : ∀ j, j < l.length → ∀ k, k < 5 → (lkCells l)[j * 5 + k]? = (l.getD j Lk.zero).cl[k]? := by
  induction l with
  | nil => intro j hj; simp at hj
  | cons a l ih =>
    intro j hj k hk
    have hcl : a.cl.length = 5 := rfl
    show (a.cl ++ lkCells l)[j * 5 + k]? = _
    cases j with
    | zero => rw [Nat.zero_mul, Nat.zero_add, List.getElem?_append_left (by omega)]; simp
    | succ j =>
      rw [List.getElem?_append_right (by omega), hcl, show (j + 1) * 5 + k - 5 = j * 5 + k by omega]
      have := ih j (by simpa using hj) k hk
      rw [this]; simp

/-- A slice of links. -/
def SlK (w : World) (v : Value) (l : List Lk) : Prop :=
  (l = [] ∧ v = .slice none 0 0) ∨ (∃ b off c, 0 < l.length ∧ v = .slice (some ⟨b, off, none⟩) l.length c ∧ ∀ j, j < l.length → LkAt w b (off + j * 5) (l.getD j Lk.zero))
theorem SlK.fr {w w' : World} {v : Value} {l : List Lk} (h : SlK w v l) (hf : Fr No w w') : SlK w' v l := by
  rcases h with h | ⟨b, off, c, h0, e, hc⟩
  · exact .inl h
  · exact .inr ⟨b, off, c, h0, e, fun j hj => (hc j hj).fr hf (fun h => h)⟩

theorem own_lks {w : World} {base : Nat} {v : Value} {l : List Lk} (h : w.ownsRow base 120 5 v l.length (lkCells l)) (h0 : 0 < l.length) :
    ∃ g cap, v = .slice (some ⟨g, 0, none⟩) l.length cap ∧ base ≤ g ∧ g < w.heap.size ∧ l.length ≤ cap ∧ ∀ j, j < l.length → LkAt w g (0 + j * 5) (l.getD j Lk.zero) := by
  have hh := h
  obtain ⟨_, h' | ⟨g, cap, cur, rfl, hb, hg, h1, h2, _⟩⟩ := hh
  · omega
  · have hc := h.cells (g := g) rfl
    have hl := h.lt g rfl
    refine ⟨g, cap, rfl, hb, hl.2, h1, fun j hj => ?_⟩
    have key : ∀ k, k < 5 → w.cell? ⟨g, 0 + j * 5 + k, none⟩ = (l.getD j Lk.zero).cl[k]? := fun k hk => by
      have e := lkCells_at l j hj k hk
      have : ∃ v, (l.getD j Lk.zero).cl[k]? = some v := by
        match k, hk with
        | 0, _ => exact ⟨_, rfl⟩
        | 1, _ => exact ⟨_, rfl⟩
        | 2, _ => exact ⟨_, rfl⟩
        | 3, _ => exact ⟨_, rfl⟩
        | 4, _ => exact ⟨_, rfl⟩
      obtain ⟨v, hv⟩ := this
      rw [hv] at e ⊢
      have := hc (j * 5 + k) v e
      rw [Addr.add_mid, Nat.zero_add] at this
      rw [Nat.zero_add]; exact this
    exact ⟨key 0 (by omega), key 1 (by omega), key 2 (by omega), key 3 (by omega), key 4 (by omega)⟩

/-- One link appended to a row of one's own that may be nil. -/
theorem wpList_pushK {w : World} {ops : Array Oper} {rest : List Oper} {o : Oper} {a : Act} {Q : Exit → Act → World → Prop} (s x : Operand)
    (v : Value) (l : List Lk) (b c : Nat) (y : Lk) (hgd : o.guard = none) (ho : o.op = .call { callee := .builtin .append, args := #[s, x], argTypes := #[23, 23] })
    (hs : a.eval s = v) (hx : a.eval x = .slice (some ⟨b, 0, none⟩) 1 c)
    (base : Nat) (hown : w.ownsRow base 120 5 v l.length (lkCells l)) (hbase : base ≤ w.heap.size)
    (hnew : w.heap[b]? = some (.cells y.cl.toArray 120)) (hb : l.length ≤ 1000000)
    (h : ∀ g cap w', w'.ownsRow base 120 5 (.slice (some ⟨g, 0, none⟩) (l ++ [y]).length cap) (l ++ [y]).length (lkCells (l ++ [y])) → w.grownBy w' v.ownBlock → (v.ownBlock = some g ∨ g = w.heap.size) → g < w'.heap.size → wpList Tryz.prog ops Q rest (a.put o.dst (.slice (some ⟨g, 0, none⟩) (l ++ [y]).length cap)) w') :
    wpList Tryz.prog ops Q (o :: rest) a w := by
  obtain ⟨i0, hi, hz0, hz1, hz2⟩ := i_lk
  refine wpList_append_lies w hgd s x 23 ho base 120 i0 (.agg #[.int .i64 0, .int .i64 0, .int .i64 0, .int .i64 0, .int .i64 0]) 5 40 Tryz.underlying23 hi hz0 hz1 hz2 rfl (by decide) v l.length _ hs hown ⟨b, 0, none⟩ 1 c y.cl hx rfl ?_ ?_ (by decide) (by unfold maxLen; omega) (by omega) hbase w.heap.size rfl ?_
  · intro j u hu
    rw [Addr.add_mid, Nat.zero_add, cell_of hnew]
    simpa using hu
  · intro u hu
    simp [Lk.cl] at hu
    rcases hu with rfl | rfl | rfl | rfl | rfl <;> rfl
  · intro g cap w' h1 h2 h3 h4
    have hl : (l ++ [y]).length = l.length + 1 := by simp
    have := h g cap w' (by rw [hl, lkCells_app]; exact h1) h2 h3 h4
    rwa [hl] at this

/-- An index's links, by rising rank. -/
def Ix.lkRow (x : Ix) (a : Nat) : Nat → List Lk
  | 0 => []
  | b + 1 => if x.at_ (x.by_ a : Nat) (x.by_ b : Nat) = En.none then x.lkRow a b else x.lkRow a b ++ [⟨(x.by_ a : Nat), (x.by_ b : Nat), x.at_ (x.by_ a : Nat) (x.by_ b : Nat)⟩]
def Ix.lks (x : Ix) : Nat → List Lk
  | 0 => []
  | a + 1 => x.lks a ++ x.lkRow a x.n
theorem Ix.lkRow_len (x : Ix) (a : Nat) : ∀ b, (x.lkRow a b).length ≤ b := by
  intro b
  induction b with
  | zero => simp [Ix.lkRow]
  | succ b ih =>
    rw [Ix.lkRow]
    split
    · omega
    · simp; omega
theorem Ix.lks_len (x : Ix) : ∀ a, (x.lks a).length ≤ a * x.n := by
  intro a
  induction a with
  | zero => simp [Ix.lks]
  | succ a ih => rw [Ix.lks, List.length_append]; have := x.lkRow_len a x.n; rw [Nat.add_mul]; omega

end Go.Proofs.YtoepbhacpidcbaaGreatDoor

/- The index's links; the program's 'Links' walked. -/
set_option linter.unusedVariables false
set_option linter.unusedSimpArgs false
namespace Go.Proofs.YtoepbhacpidcbaaGreatDoor
open Go.RowKit Go.Deep
attribute [local go_sem high] run_eql_en run_neq_en

theorem own_slK {w : World} {base : Nat} {A : Option Addr} {c : Nat} {l : List Lk} (h : w.ownsRow base 120 5 (.slice A l.length c) l.length (lkCells l)) (hn : l = [] → A = none ∧ c = 0) : SlK w (.slice A l.length c) l := by
  rcases Nat.eq_zero_or_pos l.length with h0 | h0
  · have e := List.eq_nil_of_length_eq_zero h0
    obtain ⟨rfl, rfl⟩ := hn e
    exact .inl ⟨e, by rw [e]; rfl⟩
  · obtain ⟨g, cap, e, hb, hl, hc, hat⟩ := own_lks h h0
    exact .inr ⟨g, 0, cap, h0, e, hat⟩

set_option maxRecDepth 100000 in
set_option maxHeartbeats 4000000 in
theorem links_own {x : Ix} {w : World} {L : IxLoc} (h : IxMem w L x) :
    Calls Tryz.prog 46 #[.pointer (some ⟨L.b, 0, none⟩)] w fun e w' => ∃ (A : Option Addr) (c : Nat), e = .returned (.slice A (x.lks x.n).length c) ∧ Fr No w w' ∧ w'.ownsRow w.heap.size 120 5 (.slice A (x.lks x.n).length c) (x.lks x.n).length (lkCells (x.lks x.n)) ∧ (x.lks x.n = [] → A = none ∧ c = 0) := by
  have hn1 := h.ok.n1
  have hn2 := h.ok.n2
  have c1 := h.c1
  have kl := h.lt
  have gl := h.gn.lt
  go_enter Tryz.func46, Tryz.ntmps46
  go_wp2
  clear c1
  go_loopg [3, 14] x.n (fun g p q wr => ∃ (i : Nat) (l : List Lk) (A : Option Addr) (c : Nat), q = .int .i64 i ∧ i ≤ x.n ∧ p = .slice A l.length c ∧ wr.ownsRow w.heap.size 120 5 (.slice A l.length c) l.length (lkCells l) ∧ (l = [] → A = none ∧ c = 0) ∧
      l = x.lks i ∧ g = x.n - i ∧ Fr No w wr)
  case atStart => exact ⟨0, [], none, 0, rfl, Nat.zero_le _, rfl, World.ownsRow_nil _ _ _ _, fun _ => ⟨rfl, rfl⟩, rfl, rfl, Fr.refl _ _⟩
  case round =>
    obtain ⟨i, l, A, c, rfl, hi, rfl, hown, hnil, hl, hg, hf⟩ := hrel
    have HO := hid hown
    have HNIL := hid hnil
    have HL := hid hl
    have HG := hid hg
    have HF := hid hf
    clear hown hnil hl hg hf
    have HGO := HG
    by_cases hlt : i < x.n
    · have c1 := (h.no HF.out).c1
      have kl2 := (h.no HF.out).lt
      have q1 := (h.no HF.out).by_ i hlt
      have q2 := (h.no HF.out).hb.1
      have hi2 : (i : Int) < x.n := by omega
      obtain ⟨wo, rfl⟩ : ∃ wo : World, wo = wr := ⟨_, rfl⟩
      go_wp2
      clear c1 q1 hi2
      go_loopg [3, 23] x.n (fun g p q wr => ∃ (j : Nat) (l : List Lk) (A : Option Addr) (c : Nat), q = .int .i64 j ∧ j ≤ x.n ∧ p = .slice A l.length c ∧ wr.ownsRow w.heap.size 120 5 (.slice A l.length c) l.length (lkCells l) ∧ (l = [] → A = none ∧ c = 0) ∧
          l = x.lks i ++ x.lkRow i j ∧ g = x.n - j ∧ Fr No w wr)
      case atStart => exact ⟨0, l, A, c, rfl, Nat.zero_le _, rfl, HO.out, HNIL.out, by rw [HL.out]; simp [Ix.lkRow], rfl, HF.out⟩
      case round =>
        clear HO HNIL HL HG HF
        obtain ⟨j, l, A, c, rfl, hj, rfl, hown, hnil, hl, hg, hf⟩ := hrel
        have hlen : l.length ≤ 2000 := by
          rw [hl, List.length_append]
          have := x.lks_len i
          have := x.lkRow_len i j
          have : i * x.n ≤ 24 * 24 := Nat.mul_le_mul (by omega) (by omega)
          omega
        have HO := hid hown
        have HNIL := hid hnil
        have HL := hid hl
        have HG := hid hg
        have HF := hid hf
        clear hown hnil hl hg hf
        by_cases hlt2 : j < x.n
        · have q1 := (h.no HF.out).by_ j hlt2
          have q2 := (h.no HF.out).hb.1
          have hj2 : (j : Int) < x.n := by omega
          go_wp2_with fail
          refine (at_calls (h.no HF.out) (x.by_ i : Nat) (x.by_ j : Nat)).mono ?_
          rintro e w1 ⟨rfl, hf1⟩
          obtain ⟨en, hen⟩ : ∃ en, x.at_ (x.by_ i : Nat) (x.by_ j : Nat) = en := ⟨_, rfl⟩
          rw [hen]
          obtain ⟨e0, e1, e2⟩ := en
          have HEN := hid hen
          have HO1 := hid (own_fr HO.out hf1 (fun _ _ h => h))
          have HF1 := hid (HF.out.trans hf1)
          have g0 := (h.no HF1.out).gn.c0
          have g1 := (h.no HF1.out).gn.c1
          have g2 := (h.no HF1.out).gn.c2
          have gl1 := (h.no HF1.out).gn.lt
          clear hen hf1 q1 q2 hj2
          simp only [En.val]
          cases hE : eq3 e0 e1 e2 4611686018427387906 (-1) (-1) with
          | true =>
            have hE2 := eq3_en ⟨e0, e1, e2⟩ En.none
            have hnone : x.at_ (x.by_ i : Nat) (x.by_ j : Nat) = En.none := by
              rw [HEN.out]
              have : eq3 e0 e1 e2 4611686018427387906 (-1) (-1) = decide ((⟨e0, e1, e2⟩ : En) = En.none) := hE2
              rw [hE] at this
              exact of_decide_eq_true this.symm
            have HX := hid hnone
            clear hE2 hnone
            go_wp2
            go_roundg (x.n - (j + 1))
            case measure => have := HG.out; omega
            case rel => exact ⟨j + 1, l, A, c, by go_num, by omega, rfl, own_fr HO1.out ((Fr.refl No _).alloc _) (fun _ _ h => h), HNIL.out, by rw [HL.out, Ix.lkRow, if_pos HX.out], rfl, HF1.out.alloc _⟩
          | false =>
            have hE2 := eq3_en ⟨e0, e1, e2⟩ En.none
            have hnone : x.at_ (x.by_ i : Nat) (x.by_ j : Nat) ≠ En.none := by
              rw [HEN.out]
              have : eq3 e0 e1 e2 4611686018427387906 (-1) (-1) = decide ((⟨e0, e1, e2⟩ : En) = En.none) := hE2
              rw [hE] at this
              exact of_decide_eq_false this.symm
            have HX := hid hnone
            have hsz := HF1.out.size
            clear hE2 hnone
            go_wp2_with (at_builtin; refine wpList_pushK (.tmp 34) (.tmp 39) (.slice A l.length c) l (w1.heap.size + 1) 1 ⟨(x.by_ i : Nat), (x.by_ j : Nat), ⟨e0, e1, e2⟩⟩ ?_ ?_ ?_ ?_ w.heap.size ?_ ?_ ?_ ?_ ?_; rfl; rfl; rfl; rfl; exact own_fr HO1.out (((Fr.refl No _).alloc _).alloc _) (fun _ _ h => h); (simp; omega); exact heap_alloc2' _ _ _; omega; intro g' cap' w2 hown2 hgrow2 hat2 hlt3; have HO2 := hid hown2; have HG2 := hid hgrow2; clear hown2 hgrow2 hat2)
            go_roundg (x.n - (j + 1))
            case measure => have := HG.out; omega
            case rel =>
              refine ⟨j + 1, l ++ [⟨(x.by_ i : Nat), (x.by_ j : Nat), ⟨e0, e1, e2⟩⟩], some ⟨g', 0, none⟩, cap', by go_num, by omega, by simp, HO2.out, fun e => by simp at e, ?_, rfl, ((HF1.out.alloc _).alloc _).grown HG2.out (fun k e => .inr (own_block HO1.out k e).1)⟩
              rw [HL.out, Ix.lkRow, if_neg HX.out, HEN.out, List.append_assoc]
        · have e : j = x.n := by omega
          subst e
          go_wp2
          go_roundg (x.n - (i + 1))
          case measure => have := HGO.out; omega
          case rel => exact ⟨i + 1, l, A, c, by go_num, by omega, rfl, HO.out, HNIL.out, by rw [HL.out]; rfl, rfl, HF.out⟩
    · have e : i = x.n := by omega
      subst e
      go_wp2
      go_ret
      rw [← HL.out]
      exact ⟨A, c, rfl, HF.out, HO.out, HNIL.out⟩

theorem links_calls {x : Ix} {w : World} {L : IxLoc} (h : IxMem w L x) :
    Calls Tryz.prog 46 #[.pointer (some ⟨L.b, 0, none⟩)] w fun e w' => ∃ (A : Option Addr) (c : Nat), e = .returned (.slice A (x.lks x.n).length c) ∧ Fr No w w' ∧ SlK w' (.slice A (x.lks x.n).length c) (x.lks x.n) :=
  (links_own h).mono fun e w' ⟨A, c, he, hf, ho, hn⟩ => ⟨A, c, he, hf, own_slK ho hn⟩

end Go.Proofs.YtoepbhacpidcbaaGreatDoor

/- slices.IndexFunc and slices.DeleteFunc at links with the shortcuts' test; walked. -/
set_option linter.unusedVariables false
set_option linter.unusedSimpArgs false
namespace Go.Proofs.YtoepbhacpidcbaaGreatDoor
open Go.RowKit Go.Deep

def Lk.val (l : Lk) : Value := .agg #[.int .i64 l.t, .int .i64 l.h, .int .i64 l.e.w, .int .i64 l.e.a, .int .i64 l.e.m]

structure LkC (w : World) (b o : Nat) (l : Lk) : Prop where
  q0 : w.cell? ⟨b, o, none⟩ = some (.int .i64 l.t)
  q1 : w.cell? ⟨b, o + 1, none⟩ = some (.int .i64 l.h)
  q2 : w.cell? ⟨b, o + 2, none⟩ = some (.int .i64 l.e.w)
  q3 : w.cell? ⟨b, o + 3, none⟩ = some (.int .i64 l.e.a)
  q4 : w.cell? ⟨b, o + 4, none⟩ = some (.int .i64 l.e.m)
theorem LkAt.c {w : World} {b o : Nat} {l : Lk} (h : LkAt w b o l) : LkC w b o l := ⟨h.t, h.h, h.w0, h.a, h.m⟩

theorem Fr.setCells {F : Nat → Prop} {a : World} {b : Nat} (hb : F b ∨ a.heap.size ≤ b) : ∀ (vs : List Value) (o : Nat) (w : World), Fr F a w → Fr F a (w.setCells b o vs) := by
  intro vs
  induction vs with
  | nil => intro o w h; exact h
  | cons v r ih => intro o w h; exact ih (o + 1) _ (h.setCell (p := ⟨b, o, none⟩) hb v)

/-- A row of links, some of whose elements are known. -/
def RowL (w : World) (g S : Nat) (ok : Nat → Prop) (f : Nat → Lk) : Prop :=
  ∃ C, w.heap[g]? = some (.cells C 120) ∧ C.size = S ∧ ∀ q, ok q → ∀ k, k < 5 → C[q * 5 + k]? = (f q).cl[k]?

section
variable {w w' : World} {g S : Nat} {ok : Nat → Prop} {f : Nat → Lk}
theorem RowL.lt (h : RowL w g S ok f) : g < w.heap.size := by obtain ⟨C, hC, _⟩ := h; exact some_lt hC
theorem RowL.fr (h : RowL w g S ok f) {F : Nat → Prop} (hf : Fr F w w') (hF : ¬ F g) : RowL w' g S ok f := by
  have hl := h.lt
  obtain ⟨C, hC, h1, h2⟩ := h
  exact ⟨C, (hf.block g hl hF).trans hC, h1, h2⟩
theorem RowL.frozen (h : RowL w g S ok f) (i : Nat) : w.frozen? ⟨g, i, none⟩ = false := by
  obtain ⟨C, hC, _⟩ := h
  exact (own_no (Fr.refl _ _) g hC).2.1 i
theorem RowL.at (h : RowL w g S ok f) (q : Nat) (hq : ok q) : LkC w g (q * 5) (f q) := by
  obtain ⟨C, hC, _, h2⟩ := h
  have key : ∀ k, k < 5 → w.cell? ⟨g, q * 5 + k, none⟩ = (f q).cl[k]? := fun k hk => by rw [cell_of hC]; exact h2 q hq k hk
  exact ⟨key 0 (by omega), key 1 (by omega), key 2 (by omega), key 3 (by omega), key 4 (by omega)⟩
theorem RowL.mono (h : RowL w g S ok f) {ok' : Nat → Prop} {f' : Nat → Lk} (hm : ∀ q, ok' q → ok q ∧ f' q = f q) : RowL w g S ok' f' := by
  obtain ⟨C, hC, h1, h2⟩ := h
  exact ⟨C, hC, h1, fun q hq k hk => by rw [(hm q hq).2]; exact h2 q (hm q hq).1 k hk⟩
theorem set5_get (C : Array Value) (a : Nat) (v0 v1 v2 v3 v4 : Value) (ha : a + 5 ≤ C.size) (p : Nat) :
    (((((C.setIfInBounds a v0).setIfInBounds (a + 1) v1).setIfInBounds (a + 2) v2).setIfInBounds (a + 3) v3).setIfInBounds (a + 4) v4)[p]? =
      if a ≤ p ∧ p < a + 5 then [v0, v1, v2, v3, v4][p - a]? else C[p]? := by
  by_cases h : a ≤ p ∧ p < a + 5
  · rw [if_pos h]
    have : p = a ∨ p = a + 1 ∨ p = a + 2 ∨ p = a + 3 ∨ p = a + 4 := by omega
    rcases this with rfl | rfl | rfl | rfl | rfl
    · simp [Array.getElem?_setIfInBounds]; omega
    · simp [Array.getElem?_setIfInBounds]; omega
    · simp [Array.getElem?_setIfInBounds]; omega
    · simp [Array.getElem?_setIfInBounds]; omega
    · simp [Array.getElem?_setIfInBounds]; omega
  · rw [if_neg h]
    simp only [Array.getElem?_setIfInBounds]
    rw [if_neg (by omega), if_neg (by omega), if_neg (by omega), if_neg (by omega), if_neg (by omega)]
theorem RowL.put (h : RowL w g S ok f) (i : Nat) (hi : i * 5 + 5 ≤ S) (y : Lk) :
    RowL (((((w.setCell ⟨g, i * 5, none⟩ (.int .i64 y.t)).setCell ⟨g, i * 5 + 1, none⟩ (.int .i64 y.h)).setCell ⟨g, i * 5 + 2, none⟩ (.int .i64 y.e.w)).setCell ⟨g, i * 5 + 3, none⟩ (.int .i64 y.e.a)).setCell ⟨g, i * 5 + 4, none⟩ (.int .i64 y.e.m))
      g S (fun q => q = i ∨ ok q) (fun q => if q = i then y else f q) := by
  obtain ⟨C, hC, h1, h2⟩ := h
  refine ⟨_, heap_set (heap_set (heap_set (heap_set (heap_set hC _ _) _ _) _ _) _ _) _ _, by simpa using h1, fun q hq k hk => ?_⟩
  rw [set5_get _ _ _ _ _ _ _ (by omega)]
  by_cases e : q = i
  · subst e
    rw [if_pos (by omega), Nat.add_sub_cancel_left]
    show _ = (if q = q then y else f q).cl[k]?
    rw [if_pos rfl]; rfl
  · rw [if_neg (by omega)]
    show _ = (if q = i then y else f q).cl[k]?
    rw [if_neg e]
    exact h2 q (hq.resolve_left e) k hk
end

end Go.Proofs.YtoepbhacpidcbaaGreatDoor

/- slices.DeleteFunc at a row of links of one's own; the program's 'Shortcuts'; walked. -/
set_option linter.unusedVariables false
set_option linter.unusedSimpArgs false
namespace Go.Proofs.YtoepbhacpidcbaaGreatDoor
open Go.RowKit Go.Deep

theorem RowL.setCells {g S : Nat} {ok : Nat → Prop} {f : Nat → Lk} : ∀ (vs : List Value) (o : Nat) {w : World}, RowL w g S ok f → (∀ q, ok q → q * 5 + 5 ≤ o) → RowL (w.setCells g o vs) g S ok f := by
  intro vs
  induction vs with
  | nil => intro o w h _; exact h
  | cons v r ih =>
    intro o w h hq
    refine ih (o + 1) ?_ (fun q h => by have := hq q h; omega)
    obtain ⟨C, hC, h1, h2⟩ := h
    refine ⟨_, heap_set hC o v, by simpa using h1, fun q hok k hk => ?_⟩
    have := hq q hok
    rw [Array.getElem?_setIfInBounds, if_neg (by omega)]
    exact h2 q hok k hk

end Go.Proofs.YtoepbhacpidcbaaGreatDoor
