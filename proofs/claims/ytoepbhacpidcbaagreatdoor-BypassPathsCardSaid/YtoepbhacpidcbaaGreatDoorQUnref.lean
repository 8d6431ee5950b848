/- Both indices behind links that are set: the laws' 'Made'; walked. -/
import Derived.StillTailTactics
import Derived.Deep.RegionLaw
import Derived.Test.YtoepbhacpidcbaaGreatDoorQBase
import Derived.Test.YtoepbhacpidcbaaGreatDoorQIdx
import Derived.Test.YtoepbhacpidcbaaGreatDoorQIdxB
import Derived.Test.YtoepbhacpidcbaaGreatDoorQPerm
import Derived.Test.YtoepbhacpidcbaaGreatDoorQRef

set_option linter.unusedVariables false
set_option linter.unusedSimpArgs false
namespace Go.Proofs.YtoepbhacpidcbaaGreatDoor
open Go.RowKit Go.Deep

/-- A link. -/
structure Lk where
  t : Int
  h : Int
  e : En

structure LkAt (w : World) (b o : Nat) (l : Lk) : Prop where
  t : w.cell? ⟨b, o, Option.none⟩ = some (.int .i64 l.t)
  h : w.cell? ⟨b, o + 1, Option.none⟩ = some (.int .i64 l.h)
  w0 : w.cell? ⟨b, o + 2, Option.none⟩ = some (.int .i64 l.e.w)
  a : w.cell? ⟨b, o + 2 + 1, Option.none⟩ = some (.int .i64 l.e.a)
  m : w.cell? ⟨b, o + 2 + 2, Option.none⟩ = some (.int .i64 l.e.m)
theorem LkAt.fr {w w' : World} {b o : Nat} {l : Lk} (h : LkAt w b o l) {F : Nat → Prop} (hf : Fr F w w') (hb : ¬ F b) : LkAt w' b o l :=
  ⟨hf.cell_some h.t hb, hf.cell_some h.h hb, hf.cell_some h.w0 hb, hf.cell_some h.a hb, hf.cell_some h.m hb⟩

/-- A slice of links that is read. -/
def LinksF (w : World) (A : Option Addr) (n : Nat) (f : Nat → Lk) : Prop :=
  0 < n → ∃ b off, A = some ⟨b, off, none⟩ ∧ ∀ j, j < n → LkAt w b (off + j * 5) (f j)

/-- An index behind k links that are set. -/
def Ix.sets (x : Ix) (f : Nat → Lk) : Nat → Ix
  | 0 => x
  | k + 1 => (x.sets f k).setI (f k).t (f k).h (f k).e

theorem Ix.setI_n (x : Ix) (u v : Int) (e : En) : (x.setI u v e).n = x.n := by unfold Ix.setI; split <;> rfl
theorem Ix.setI_rk (x : Ix) (u v : Int) (e : En) : (x.setI u v e).rk = x.rk := by unfold Ix.setI; split <;> rfl
theorem Ix.setI_by (x : Ix) (u v : Int) (e : En) : (x.setI u v e).by_ = x.by_ := by unfold Ix.setI; split <;> rfl
theorem Ix.sets_n (x : Ix) (f : Nat → Lk) : ∀ k, (x.sets f k).n = x.n := by
  intro k
  induction k with
  | zero => rfl
  | succ k ih => simp only [Ix.sets, Ix.setI_n, ih]
set_option maxHeartbeats 1000000 in
theorem rank_law_calls (n num : Nat) (w : World) (hn : n ≤ 255) (hnum : (num : Int) ≤ 18446744073709551615) :
    Calls Tryz.prog 27 #[.int .u8 (n : Nat), .int .u64 (num : Nat)] w fun e w' => ∃ b, e = .returned (.slice (some ⟨b, 0, none⟩) (1 + n % 24) (1 + n % 24)) ∧ Fr No w w' ∧ w.heap.size ≤ b ∧
      Blk w' b (1 + n % 24) 3 (fun i => .int .i64 (rankOf (1 + n % 24) num i : Nat)) := by
  have h1 : n % 24 < 24 := Nat.mod_lt _ (by omega)
  go_enter Tryz.func27, Tryz.ntmps27
  go_wp2_with fail
  rw [show ((1 : Int) + (n : Int) % 24) = ((1 + n % 24 : Nat) : Int) by omega]
  refine (of_calls (1 + n % 24) num _ (by omega) (by omega) hnum).mono ?_
  rintro e w1 ⟨b, rfl, hf, hb, hblk⟩
  go_wp2
  go_ret
  exact ⟨b, rfl, hf, hb, hblk⟩

/-- The order of a number as an inverse pair. -/
theorem rank_perm (n num : Nat) (h0 : 0 < n) (h1 : n ≤ 24) : PermF n (fun i => ((rankOf n num i : Nat) : Int)) :=
  ⟨h1, fun j hj => by have := rankOf_lt n num j hj; show (0 : Int) ≤ (rankOf n num j : Nat) ∧ ((rankOf n num j : Nat) : Int) < n; omega, fun i j hij hj e => by have e' : ((rankOf n num i : Nat) : Int) = (rankOf n num j : Nat) := e; have := rankOf_inj n num i j (by omega) hj (by omega); omega⟩

/-- An index of the order of a number, without entries. -/
noncomputable def Ix.start (n num : Nat) : Ix := Ix.new n (fun i => ((rankOf n num i : Nat) : Int)) (if h : 0 < n ∧ n ≤ 24 then Classical.choose (rank_perm n num h.1 h.2).inv else fun _ => 0)

set_option maxRecDepth 100000 in
set_option maxHeartbeats 2000000 in
theorem made_calls (n num : Nat) (A : Option Addr) (ln cp : Nat) (lk : Nat → Lk) (w : World) (hn : n ≤ 255) (hnum : (num : Int) ≤ 18446744073709551615) (hl : LinksF w A ln lk) (hln : ln ≤ 140737488351232) (hN : NoneVar w) :
    Calls Tryz.prog 15 #[.int .u8 (n : Nat), .int .u64 (num : Nat), .slice A ln cp] w fun e w' => ∃ (L : IxLoc) (R : RxLoc), e = .returned (.tuple #[.pointer (some ⟨L.b, 0, none⟩), .pointer (some ⟨R.b, 0, none⟩)]) ∧ Fr No w w' ∧
      IxMem w' L ((Ix.start (1 + n % 24) num).sets lk (min ln 300)) ∧ RxMem w' R ((Ix.start (1 + n % 24) num).sets lk (min ln 300)) ∧
      w.heap.size ≤ L.b ∧ w.heap.size ≤ L.br ∧ w.heap.size ≤ L.bb ∧ L.b < R.b ∧ L.br < R.b ∧ L.bb < R.b ∧ L.b < R.br ∧ L.br < R.br ∧ L.bb < R.br ∧ L.cb = 1 + n % 24 := by
  have hmod : n % 24 < 24 := Nat.mod_lt _ (by omega)
  have hd := rank_perm (1 + n % 24) num (by omega) (by omega)
  have hg := Classical.choose_spec hd.inv
  have hst : Ix.start (1 + n % 24) num = Ix.new (1 + n % 24) (fun i => ((rankOf (1 + n % 24) num i : Nat) : Int)) (Classical.choose hd.inv) := by
    unfold Ix.start; rw [dif_pos ⟨by omega, by omega⟩]
  rw [hst]
  have HD := hid hd
  have HG := hid hg
  have HL := hid hl
  have HN := hid hN
  clear hst hl hN
  go_enter Tryz.func15, Tryz.ntmps15
  go_wp2_with (first
    | (go_at_call 27; refine (rank_law_calls _ _ _ hn hnum).mono ?_; rintro e w1 ⟨b, rfl, hf1, hb1, hblk⟩; have HF1 := hid hf1; have HB := hid hblk; clear hf1 hblk)
    | (go_at_call 54; refine (new_yes _ _ _ (fun i => ((rankOf (1 + n % 24) num i : Nat) : Int)) _ (fun _ => ⟨b, 0, rfl, fun j hj => by rw [Nat.zero_add]; exact HB.out.cell hj⟩) (by omega) HD.out _ HG.out.1 HG.out.2 (HN.out.fr HF1.out (fun h => h))).mono ?_; rintro e w2 ⟨L, rfl, hf2, hx, hl1, hl2, hl3, hcb⟩; have HF2 := hid hf2; have HX := hid hx; have HCB := hid hcb; clear hf2 hx hcb)
    | (go_at_call 57; refine (rnew_calls b 0 _ _ (fun i => ((rankOf (1 + n % 24) num i : Nat) : Int)) _ (fun j hj => by rw [Nat.zero_add]; exact HF2.out.cell_some (HB.out.cell hj) (fun h => h)) (by omega) HD.out _ HG.out.1 HG.out.2).mono ?_; rintro e w3 ⟨R, rfl, hf3, hr, hl4, hl5⟩; have HF3 := hid hf3; have HR := hid hr; clear hf3 hr))
  have hf : Fr No w w3 := (HF1.out.trans HF2.out).trans HF3.out
  have hs1 := HF1.out.size
  have hs2 := HF2.out.size
  have hs3 := HF3.out.size
  have hx3 := HX.out.no HF3.out
  have p1 := HX.out.lt
  have p2 := HX.out.hr.1
  have p3 := HX.out.hb.1
  have g0 := HN.out.lt
  have p4 : 0 ≠ R.b := by omega
  have p5 : 0 ≠ R.br := by omega
  have HF := hid hf
  have HX3 := hid hx3
  clear hf hx3
  go_loopw [12] (fun i wr => ∃ k : Nat, k ≤ ln ∧ k ≤ 300 ∧ i = .int .i64 k ∧ Fr No w wr ∧ IxMem wr L ((Ix.new (1 + n % 24) (fun i => ((rankOf (1 + n % 24) num i : Nat) : Int)) (Classical.choose hd.inv)).sets lk k) ∧
      RxMem wr R ((Ix.new (1 + n % 24) (fun i => ((rankOf (1 + n % 24) num i : Nat) : Int)) (Classical.choose hd.inv)).sets lk k)) (fun i _ => ln - (intOf i).toNat)
  case atStart => exact ⟨0, Nat.zero_le _, Nat.zero_le _, rfl, HF.out, HX3.out, HR.out⟩
  case round =>
    obtain ⟨k, hk, hk3, rfl, hf, hx, hr⟩ := hrel
    have HF := hid hf
    have HX := hid hx
    have HR := hid hr
    clear hf hx hr
    by_cases hlt : k < ln
    · by_cases hlt3 : k < 300
      · obtain ⟨bl, ol, rfl, hc⟩ := HL.out (by omega)
        have HC := hid (hc k hlt)
        obtain ⟨c0, c1, c2, c3, c4⟩ := HC.out.fr HF.out (fun h => h)
        clear hc
        go_wp2
        go_still_tail 16, (by kernel_rfl)
        go_wp2_with (go_at_call 56; refine (set_calls HX.out.drew _ _ (lk k).e).mono ?_; rintro e w4 ⟨rfl, hx4, hf4⟩; have HX4 := hid hx4; have HF4 := hid hf4; clear hx4 hf4)
        have hfw4 : Fr No w w4 := HF.out.drew.trans' HF4.out (fun i hi (h : i = L.b) => by omega)
        have hr4 : RxMem w4 R _ := HR.out.drew.fr HF4.out (fun (h : R.b = L.b) => by omega) (fun (h : R.br = L.b) => by omega)
        have HFW4 := hid hfw4
        have HR4 := hid hr4
        clear hfw4 hr4 c0 c1 c2 c3 c4
        obtain ⟨c0, c1, c2, c3, c4⟩ := HC.out.fr HFW4.out (fun h => h)
        go_still_tail 16, (by kernel_rfl)
        go_wp2_with (go_at_call 58; refine (rset_calls HR4.out.drew _ _ (lk k).e).mono ?_; rintro e w5 ⟨rfl, hr5, hf5⟩; have HR5 := hid hr5; have HF5 := hid hf5; clear hr5 hf5)
        go_roundw
        case rel =>
          refine ⟨k + 1, hlt, hlt3, by go_num, HFW4.out.drew.trans' HF5.out (fun i hi (h : i = R.b) => by omega), HX4.out.drew.fr HF5.out (fun (h : L.b = R.b) => by omega) (fun (h : L.br = R.b) => by omega) (fun (h : L.bb = R.b) => by omega) (fun (h : _ = R.b) => p4 h), HR5.out⟩
        case measure => simp [intOf]; omega
      · have e : k = min ln 300 := by omega
        have HE := hid e
        clear e
        go_wp2
        go_ret2
        exact ⟨L, R, rfl, HF.out, HE.out ▸ HX.out, HE.out ▸ HR.out, by omega, by omega, by omega, by omega, by omega, by omega, by omega, by omega, by omega, HCB.out⟩
    · have e : k = min ln 300 := by omega
      have HE := hid e
      clear e
      go_wp2
      go_ret2
      exact ⟨L, R, rfl, HF.out, HE.out ▸ HX.out, HE.out ▸ HR.out, by omega, by omega, by omega, by omega, by omega, by omega, by omega, by omega, by omega, HCB.out⟩

end Go.Proofs.YtoepbhacpidcbaaGreatDoor

/- Appending to a new, empty row: small words. -/
set_option linter.unusedVariables false
set_option linter.unusedSimpArgs false
namespace Go.Proofs.YtoepbhacpidcbaaGreatDoor
open Go.RowKit Go.Deep

theorem own_of_heap {w : World} {b base cap n : Nat} {C : Array Value} {T : TypeId} {xs : List Value} (hb : w.heap[b]? = some (.cells C T)) (hbase : base ≤ b) (hcap : n ≤ cap) (hmax : cap ≤ maxLen) (hs : C.size = cap) (hx : C.toList.take n = xs) (hl : xs.length = n) :
    w.ownsRow base T 1 (.slice (some ⟨b, 0, none⟩) n cap) n xs :=
  ⟨by omega, .inr ⟨b, cap, C, rfl, hbase, hb, hcap, hmax, by omega, by simpa using hx⟩⟩
theorem heap_alloc2 (w : World) (a b : Obj) : ((w.alloc a).alloc b).heap[w.heap.size]? = some a := by
  rw [Below.heap_alloc _ _ _ (by simp)]; exact heap_new w a
theorem heap_alloc2' (w : World) (a b : Obj) : ((w.alloc a).alloc b).heap[w.heap.size + 1]? = some b := by
  have := heap_new (w.alloc a) b
  rwa [World.size_alloc] at this
/-- A row of numbers of one's own, as a list. -/
theorem own_list {w : World} {base e g n cap : Nat} {l : List Int} (h : w.ownsRow base e 1 (.slice (some ⟨g, 0, none⟩) n cap) n (l.map (Value.int .i64))) :
    base ≤ g ∧ g < w.heap.size ∧ l.length = n ∧ n ≤ cap ∧ (∀ j, j < n → w.cell? ⟨g, j, none⟩ = some (.int .i64 (l.getD j 0))) := by
  have hl := h.lt g rfl
  have hc := h.cells (g := g) rfl
  have hn : l.length = n := by have := h.1; simp at this; exact this
  refine ⟨hl.1, hl.2, hn, ?_, fun j hj => ?_⟩
  · obtain ⟨_, h | ⟨g', cap', cur, e1, _, _, h1, h2, _⟩⟩ := h
    · cases h.1
    · simp only [Value.slice.injEq] at e1; omega
  · have := hc j (.int .i64 (l.getD j 0)) (by rw [List.getElem?_map, List.getElem?_eq_getElem (by omega)]; simp [List.getElem?_eq_getElem (show j < l.length by omega)])
    rwa [Addr.add_mid, Nat.zero_add] at this


/-- Numbers appended to a row of one's own, at a step of a region that draws its order. -/
theorem step_app {w : World} {ops : Array Oper} {o : Oper} {a : Act} {K : Act → World → Prop} {Q : Exit → Act → World → Prop} {E : Prop} (s x : Operand)
    (g n cap b off m c : Nat) (l : List Int) (f : Nat → Int) (hgd : o.guard = none) (ho : o.op = .call { callee := .builtin .append, args := #[s, x], argTypes := #[34, 34] })
    (hs : a.eval s = .slice (some ⟨g, 0, none⟩) n cap) (hx : a.eval x = .slice (some ⟨b, off, none⟩) m c)
    (base : Nat) (hown : w.ownsRow base 3 1 (.slice (some ⟨g, 0, none⟩) n cap) n (l.map (Value.int .i64))) (hbase : base ≤ w.heap.size)
    (hnews : ∀ j, j < m → w.cell? ⟨b, off + j, none⟩ = some (.int .i64 (f j))) (hm : 0 < m) (hb : n + m ≤ 17592186043904)
    (h : ∀ g' cap' w', w'.ownsRow base 3 1 (.slice (some ⟨g', 0, none⟩) (n + m) cap') (n + m) ((l ++ (List.range m).map f).map (Value.int .i64)) → w.grownBy w' (some g) → (g = g' ∨ g' = w.heap.size) → g' < w'.heap.size → K (a.put o.dst (.slice (some ⟨g', 0, none⟩) (n + m) cap')) w') :
    if Region.wanted o (yielded ops a.tmps) = true then Oper.wp Tryz.prog o a w K Q else E := by
  obtain ⟨i0, hi, hz0, hz1, hz2⟩ := i_int
  refine step_append_lies w hgd s x 34 ho base 3 i0 (.int .i64 0) 1 8 Tryz.underlying34 hi hz0 hz1 hz2 rfl (by decide) _ n _ hs hown ⟨b, off, none⟩ m c ((List.range m).map fun j => .int .i64 (f j)) hx (by simp) ?_ ?_ hm (by unfold maxLen; omega) (by omega) hbase w.heap.size rfl ?_
  · intro j u hu
    obtain ⟨hj, rfl⟩ : j < m ∧ u = .int .i64 (f j) := by
      rw [List.getElem?_map] at hu
      rcases Nat.lt_or_ge j m with hj | hj
      · rw [List.getElem?_range hj] at hu; simp at hu; exact ⟨hj, hu.symm⟩
      · rw [List.getElem?_eq_none (by simpa using hj)] at hu; simp at hu
    rw [Addr.add_mid]; exact hnews j hj
  · intro u hu; simp at hu; obtain ⟨j, _, rfl⟩ := hu; rfl
  · intro g' cap' w' h1 h2 h3 h4
    refine h g' cap' w' ?_ h2 ?_ h4
    · simpa [List.map_append, List.map_map, Function.comp_def] using h1
    · simpa [Value.ownBlock] using h3

theorem some_lt {w : World} {k : Nat} {ob : Obj} (h : w.heap[k]? = some ob) : k < w.heap.size := by
  rcases Nat.lt_or_ge k w.heap.size with h' | h'
  · exact h'
  · rw [Array.getElem?_eq_none h'] at h; cases h
/-- One number appended to a row of one's own that may be nil. -/
theorem wpList_push {w : World} {ops : Array Oper} {rest : List Oper} {o : Oper} {a : Act} {Q : Exit → Act → World → Prop} (s x : Operand)
    (v : Value) (l : List Int) (b c : Nat) (y : Int) (hgd : o.guard = none) (ho : o.op = .call { callee := .builtin .append, args := #[s, x], argTypes := #[34, 34] })
    (hs : a.eval s = v) (hx : a.eval x = .slice (some ⟨b, 0, none⟩) 1 c)
    (base : Nat) (hown : w.ownsRow base 3 1 v l.length (l.map (Value.int .i64))) (hbase : base ≤ w.heap.size)
    (hnew : w.cell? ⟨b, 0, none⟩ = some (.int .i64 y)) (hb : l.length ≤ 17592186043900)
    (h : ∀ g cap w', w'.ownsRow base 3 1 (.slice (some ⟨g, 0, none⟩) (l ++ [y]).length cap) (l ++ [y]).length ((l ++ [y]).map (Value.int .i64)) → w.grownBy w' v.ownBlock → (v.ownBlock = some g ∨ g = w.heap.size) → g < w'.heap.size → wpList Tryz.prog ops Q rest (a.put o.dst (.slice (some ⟨g, 0, none⟩) (l ++ [y]).length cap)) w') :
    wpList Tryz.prog ops Q (o :: rest) a w := by
  obtain ⟨i0, hi, hz0, hz1, hz2⟩ := i_int
  refine wpList_append_lies w hgd s x 34 ho base 3 i0 (.int .i64 0) 1 8 Tryz.underlying34 hi hz0 hz1 hz2 rfl (by decide) v l.length _ hs hown ⟨b, 0, none⟩ 1 c [.int .i64 y] hx rfl ?_ ?_ (by decide) (by unfold maxLen; omega) (by omega) hbase w.heap.size rfl ?_
  · intro j u hu
    match j, hu with
    | 0, hu => simp at hu; subst hu; rw [Addr.add_mid]; exact hnew
  · intro u hu; simp at hu; subst hu; rfl
  · intro g cap w' h1 h2 h3 h4
    have hl : (l ++ [y]).length = l.length + 1 := by simp
    have := h g cap w' (by rw [hl]; simpa using h1) h2 h3 h4
    rwa [hl] at this


theorem set2 {w : World} {b : Nat} {x0 x1 : Value} {T : TypeId} (h : w.heap[b]? = some (.cells #[x0, x1] T)) (v0 v1 : Value) :
    ((w.setCell ⟨b, 0, none⟩ v0).setCell ⟨b, 1, none⟩ v1).heap[b]? = some (.cells #[v0, v1] T) := heap_set (heap_set h 0 v0) 1 v1

end Go.Proofs.YtoepbhacpidcbaaGreatDoor

/- Appending a list of numbers to a row of one's own. -/
set_option linter.unusedVariables false
set_option linter.unusedSimpArgs false
namespace Go.Proofs.YtoepbhacpidcbaaGreatDoor
open Go.RowKit Go.Deep

theorem wpList_cat {w : World} {ops : Array Oper} {rest : List Oper} {o : Oper} {a : Act} {Q : Exit → Act → World → Prop} (s x : Operand)
    (v : Value) (l : List Int) (b off c : Nat) (l2 : List Int) (hgd : o.guard = none) (ho : o.op = .call { callee := .builtin .append, args := #[s, x], argTypes := #[34, 34] })
    (hs : a.eval s = v) (hx : a.eval x = .slice (some ⟨b, off, none⟩) l2.length c)
    (base : Nat) (hown : w.ownsRow base 3 1 v l.length (l.map (Value.int .i64))) (hbase : base ≤ w.heap.size)
    (hnew : ∀ j, j < l2.length → w.cell? ⟨b, off + j, none⟩ = some (.int .i64 (l2.getD j 0))) (h0 : 0 < l2.length) (hb : l.length + l2.length ≤ 17592186043900)
    (h : ∀ g cap w', w'.ownsRow base 3 1 (.slice (some ⟨g, 0, none⟩) (l ++ l2).length cap) (l ++ l2).length ((l ++ l2).map (Value.int .i64)) → w.grownBy w' v.ownBlock → (v.ownBlock = some g ∨ g = w.heap.size) → g < w'.heap.size → wpList Tryz.prog ops Q rest (a.put o.dst (.slice (some ⟨g, 0, none⟩) (l ++ l2).length cap)) w') :
    wpList Tryz.prog ops Q (o :: rest) a w := by
  obtain ⟨i0, hi, hz0, hz1, hz2⟩ := i_int
  refine wpList_append_lies w hgd s x 34 ho base 3 i0 (.int .i64 0) 1 8 Tryz.underlying34 hi hz0 hz1 hz2 rfl (by decide) v l.length _ hs hown ⟨b, off, none⟩ l2.length c (l2.map (Value.int .i64)) hx (by simp) ?_ ?_ h0 (by unfold maxLen; omega) (by omega) hbase w.heap.size rfl ?_
  · intro j u hu
    have hj : j < l2.length := by have := (List.getElem?_eq_some_iff.1 hu).1; simpa using this
    rw [List.getElem?_map, List.getElem?_eq_getElem hj] at hu
    simp at hu; subst hu
    rw [Addr.add_mid, hnew j hj]
    simp [List.getElem?_eq_getElem hj]
  · intro u hu; simp at hu; obtain ⟨j, _, rfl⟩ := hu; rfl
  · intro g cap w' h1 h2 h3 h4
    have hl : (l ++ l2).length = l.length + l2.length := by simp
    have := h g cap w' (by rw [hl]; simpa using h1) h2 h3 h4
    rwa [hl] at this

/-- The block of a row of one's own. -/
theorem own_block {w : World} {base n size c : Nat} {e : TypeId} {A : Option Addr} {xs : List Value} (h : w.ownsRow base e size (.slice A n c) n xs) : ∀ k, (Value.slice A n c).ownBlock = some k → base ≤ k ∧ k < w.heap.size := fun k hk => h.lt k hk

end Go.Proofs.YtoepbhacpidcbaaGreatDoor
/- Unpacking as plain mathematics: an entry's arcs; how deep it goes. -/
set_option linter.unusedVariables false
set_option linter.unusedSimpArgs false
namespace Go.Proofs.YtoepbhacpidcbaaGreatDoor
open Go.RowKit

/-- Each entry may be there. -/
def Ix.Fit (x : Ix) : Prop := ∀ u v : Nat, x.two u v = true → x.May u v (x.ent u v)

theorem Ix.May_congr {x y : Ix} (hn : x.n = y.n) (hr : x.rk = y.rk) (u v : Int) (e : En) : x.May u v e ↔ y.May u v e := by
  have : ∀ z, x.rank z = y.rank z := fun z => by simp only [Ix.rank, hn, hr]
  simp only [Ix.May, this]
theorem Ix.two_congr {x y : Ix} (hn : x.n = y.n) (u v : Int) : x.two u v = y.two u v := by simp only [Ix.two, hn]

theorem Ix.Fit.setI {x : Ix} (h : x.Fit) (u v : Int) (e : En) : (x.setI u v e).Fit := fun a b hab => by
  have hn := Ix.setI_n x u v e
  have hr := Ix.setI_rk x u v e
  rw [Ix.May_congr hn hr]
  rw [Ix.two_congr hn] at hab
  unfold Ix.setI
  split
  · rename_i hc
    simp only [Ix.set]
    split
    · rename_i he
      obtain ⟨rfl, rfl⟩ := he
      obtain ⟨_, h1, _, h2, _⟩ := two_iff hc.1
      rw [Int.toNat_of_nonneg h1, Int.toNat_of_nonneg h2]
      exact hc.2
    · exact h a b hab
  · exact h a b hab
theorem Ix.Fit.sets {x : Ix} (h : x.Fit) (f : Nat → Lk) : ∀ k, (x.sets f k).Fit := by
  intro k
  induction k with
  | zero => exact h
  | succ k ih => exact ih.setI _ _ _
theorem Ix.Fit.new (n : Nat) (f : Nat → Int) (g : Nat → Nat) : (Ix.new n f g).Fit := fun u v _ => .inl ⟨rfl, rfl, rfl⟩
theorem Ix.Fit.start (n num : Nat) : (Ix.start n num).Fit := Ix.Fit.new _ _ _

/-- An entry from one vertex to another one: none, an arc, or by way of a lower vertex. -/
theorem Ix.Fit.cases {x : Ix} (h : x.Fit) (hok : x.Ok) (u v : Int) : x.at_ u v = En.none ∨
    ((x.at_ u v).w ≤ 4611686018427387905 ∧ 1 ≤ (x.at_ u v).w ∧ x.two u v = true ∧
      (((x.at_ u v).m = -1 ∧ 0 ≤ (x.at_ u v).a ∧ (x.at_ u v).a < 64) ∨
       ((x.at_ u v).a = -1 ∧ 0 ≤ (x.at_ u v).m ∧ (x.at_ u v).m < x.n ∧ x.rk (x.at_ u v).m.toNat < x.rk u.toNat ∧ x.rk (x.at_ u v).m.toNat < x.rk v.toNat))) := by
  cases ht : x.two u v with
  | false => exact .inl (by simp [Ix.at_, ht])
  | true =>
    have e : x.at_ u v = x.ent u.toNat v.toNat := by simp [Ix.at_, ht]
    obtain ⟨hne, h1, h2, h3, h4⟩ := two_iff ht
    have hm := h u.toNat v.toNat (by rw [Int.toNat_of_nonneg h1, Int.toNat_of_nonneg h3]; exact ht)
    rw [← e, Int.toNat_of_nonneg h1, Int.toNat_of_nonneg h3] at hm
    have ru : x.rank u = x.rk u.toNat := if_pos ⟨h1, h2⟩
    have rv : x.rank v = x.rk v.toNat := if_pos ⟨h3, h4⟩
    rcases hm with ⟨a, b, c⟩ | ⟨a, b, ⟨c, d, f⟩ | ⟨c, d, f, g, k⟩⟩
    · left; cases hx : x.at_ u v; rw [hx] at a b c; simp only at a b c; rw [a, b, c]; rfl
    · exact .inr ⟨b, a, rfl, .inl ⟨c, d, f⟩⟩
    · have hv : 0 ≤ (x.at_ u v).m ∧ (x.at_ u v).m < x.n := by
        unfold Ix.rank at f; split at f
        · assumption
        · omega
      have rm : x.rank (x.at_ u v).m = x.rk (x.at_ u v).m.toNat := if_pos hv
      refine .inr ⟨b, a, rfl, .inr ⟨d, hv.1, hv.2, ?_, ?_⟩⟩ <;> omega

/-- The arcs of an entry behind others, and the code (3: there is none, 9: too many). -/
def Ix.add (x : Ix) : Nat → Int → Int → List Int → List Int × Int
  | 0, _, _, _ => ([], 3)
  | f + 1, u, v, l =>
    if x.at_ u v = En.none then ([], 3)
    else if (x.at_ u v).m < 0 then (if 23 ≤ l.length then ([], 9) else (l ++ [(x.at_ u v).a], 0))
    else if (x.add f u (x.at_ u v).m l).2 ≠ 0 then ([], (x.add f u (x.at_ u v).m l).2)
    else x.add f (x.at_ u v).m v (x.add f u (x.at_ u v).m l).1

/-- How deep an entry goes at most. -/
def Ix.dep (x : Ix) (u v : Int) : Nat := min (x.rk u.toNat) (x.rk v.toNat) + 1

theorem Ix.dep_le {x : Ix} (h : x.Ok) {u v : Int} (ht : x.two u v = true) : x.dep u v ≤ 24 := by
  obtain ⟨hne, h1, h2, h3, h4⟩ := two_iff ht
  have := (h.rk u.toNat (by omega)).1
  have := h.n2
  unfold Ix.dep; omega

theorem Ix.dep_mid {x : Ix} {u v : Int} (h1 : x.rk (x.at_ u v).m.toNat < x.rk u.toNat) (h2 : x.rk (x.at_ u v).m.toNat < x.rk v.toNat) :
    x.dep u (x.at_ u v).m < x.dep u v ∧ x.dep (x.at_ u v).m v < x.dep u v := by unfold Ix.dep; omega

/-- More fuel than the depth changes nothing. -/
theorem Ix.add_fuel {x : Ix} (hf : x.Fit) (hok : x.Ok) : ∀ (d f g : Nat) (u v : Int) (l : List Int), x.dep u v ≤ d → d ≤ f → d ≤ g → x.add f u v l = x.add g u v l := by
  intro d
  induction d with
  | zero => intro f g u v l h; unfold Ix.dep at h; omega
  | succ d ih =>
    intro f g u v l h hfd hgd
    obtain ⟨f, rfl⟩ : ∃ k, f = k + 1 := ⟨f - 1, by omega⟩
    obtain ⟨g, rfl⟩ : ∃ k, g = k + 1 := ⟨g - 1, by omega⟩
    simp only [Ix.add]
    rcases hf.cases hok u v with h0 | ⟨h1, h2, h3, ⟨h4, h5, h6⟩ | ⟨h4, h5, h6, h7, h8⟩⟩
    · rw [if_pos h0, if_pos h0]
    · by_cases h0 : x.at_ u v = En.none
      · rw [if_pos h0, if_pos h0]
      · have hm : (x.at_ u v).m < 0 := by omega
        simp only [if_neg h0, if_pos hm]
    · by_cases h0 : x.at_ u v = En.none
      · rw [if_pos h0, if_pos h0]
      · have hd := Ix.dep_mid h7 h8
        have hm : ¬ (x.at_ u v).m < 0 := by omega
        simp only [if_neg h0, if_neg hm]
        rw [ih f g u _ l (by omega) (by omega) (by omega)]
        split
        · rfl
        · exact ih f g _ v _ (by omega) (by omega) (by omega)

/-- No list has more than 23 arcs, and none is empty behind a success. -/
theorem Ix.add_len (x : Ix) : ∀ (f : Nat) (u v : Int) (l : List Int), l.length ≤ 23 → (x.add f u v l).1.length ≤ 23 ∧ ((x.add f u v l).2 = 0 → l.length < (x.add f u v l).1.length) ∧ ((x.add f u v l).2 ≠ 0 → (x.add f u v l).1 = [] ∧ 0 ≤ (x.add f u v l).2 ∧ (x.add f u v l).2 ≤ 9) := by
  intro f
  induction f with
  | zero => intro u v l h; exact ⟨by simp [Ix.add], by simp [Ix.add], by simp [Ix.add]⟩
  | succ f ih =>
    intro u v l h
    simp only [Ix.add]
    split
    · exact ⟨by simp, by simp, by simp⟩
    · split
      · split
        · exact ⟨by simp, by simp, by simp⟩
        · exact ⟨by simp; omega, by simp, by simp⟩
      · have i1 := ih u (x.at_ u v).m l h
        split
        · rename_i hne
          exact ⟨by simp, fun e => absurd e hne, fun _ => ⟨rfl, (i1.2.2 hne).2⟩⟩
        · rename_i heq
          have heq : (x.add f u (x.at_ u v).m l).2 = 0 := by simpa using heq
          have i2 := ih (x.at_ u v).m v _ i1.1
          exact ⟨i2.1, fun e => Nat.lt_trans (i1.2.1 heq) (i2.2.1 e), i2.2.2⟩

end Go.Proofs.YtoepbhacpidcbaaGreatDoor

/- The document's unpacking of an entry; walked. -/
set_option linter.unusedVariables false
set_option linter.unusedSimpArgs false
namespace Go.Proofs.YtoepbhacpidcbaaGreatDoor
open Go.RowKit Go.Deep
attribute [local go_sem ↓] Go.wp_at_zero Go.wp_at_succ
attribute [local go_sem high] run_eql_en run_neq_en

/-- A slice value that reads as a list: nil of the empty one. -/
def SlL (w : World) (v : Value) (l : List Int) : Prop :=
  (l = [] ∧ v = .slice none 0 0) ∨ (∃ b off c, 0 < l.length ∧ v = .slice (some ⟨b, off, none⟩) l.length c ∧ ∀ j, j < l.length → w.cell? ⟨b, off + j, none⟩ = some (.int .i64 (l.getD j 0)))
theorem SlL.fr {w w' : World} {v : Value} {l : List Int} (h : SlL w v l) (hf : Fr No w w') : SlL w' v l := by
  rcases h with h | ⟨b, off, c, h0, e, hc⟩
  · exact .inl h
  · exact .inr ⟨b, off, c, h0, e, fun j hj => hf.cell_some (hc j hj) (fun h => h)⟩
theorem SlL.nil (w : World) : SlL w (.slice none 0 0) [] := .inl ⟨rfl, rfl⟩

end Go.Proofs.YtoepbhacpidcbaaGreatDoor

/- The document's unpacking of an entry, whole; walked. -/
set_option linter.unusedVariables false
set_option linter.unusedSimpArgs false
namespace Go.Proofs.YtoepbhacpidcbaaGreatDoor
open Go.RowKit Go.Deep
attribute [local go_sem ↓] Go.wp_at_zero Go.wp_at_succ
attribute [local go_sem high] run_eql_en run_neq_en

end Go.Proofs.YtoepbhacpidcbaaGreatDoor
