/- What moves with a vertex: the document's; walked. -/
import Derived.Test.YtlncmnphjdeeoaaDoorMov
set_option linter.unusedVariables false
set_option linter.unusedSimpArgs false
namespace Go.Proofs.YtlncmnphjdeeoaaDoor
open Go.RowKit Go.Deep

/-- A row of 24 words. -/
def BoolAt (w : World) (b : Nat) (m : Nat → Bool) : Prop := Blk w b 24 82 (fun i => .bool (m i))
def cellsB (m : Nat → Bool) : List Value := (List.range 24).map fun i => .bool (m i)
def boolsV (m : Nat → Bool) : Value := .agg (cellsB m).toArray
def updB (m : Nat → Bool) (k : Nat) : Nat → Bool := fun i => if i = k then true else m i
theorem cellsB_len (m : Nat → Bool) : (cellsB m).length = 24 := by simp [cellsB]
theorem cellsB_one (m : Nat → Bool) : (cellsB m).toArray.all (·.oneCell') = true := all_oneCell_toArray fun v hv => by
  simp only [cellsB, List.mem_map] at hv
  obtain ⟨i, _, rfl⟩ := hv
  rfl
theorem BoolAt.range {w : World} {b : Nat} {m : Nat → Bool} (h : BoolAt w b m) : w.rangeAt b 0 (cellsB m) := fun j v hv => by
  rcases Nat.lt_or_ge j 24 with hj | hj
  · simp only [cellsB, List.getElem?_map, List.getElem?_range hj, Option.map_some, Option.some.injEq] at hv
    subst hv
    rw [Nat.zero_add]
    exact Blk.cell h hj
  · rw [List.getElem?_eq_none (by simpa [cellsB] using hj)] at hv; cases hv
theorem BoolAt.set {w : World} {b : Nat} {m0 : Nat → Bool} (h : BoolAt w b m0) (m : Nat → Bool) : BoolAt (w.setCells b 0 (cellsB m)) b m :=
  (Blk.setCells _ 0 w _ h).congr fun i hi => by
    rw [cellsB_len, if_pos (by omega)]
    simp [cellsB, List.getD, hi]
theorem BoolAt.put {w : World} {b : Nat} {m : Nat → Bool} (h : BoolAt w b m) (k : Nat) : BoolAt (w.setCell ⟨b, k, none⟩ (.bool true)) b (updB m k) :=
  (Blk.setCell h k (.bool true)).congr fun i _ => by
    unfold upd updB
    by_cases e : i = k
    · rw [if_pos e, if_pos e]
    · rw [if_neg e, if_neg e]

/-- Does a vertex move, by the pairs that have been gone through? -/
def Ix.MvR (x : Ix) (v : Int) (C D : Nat → Int) (a b i : Nat) : Prop :=
  x.vertex v = true ∧ ∃ u w, u < x.n ∧ w < x.n ∧ u ≠ w ∧ x.rk v.toNat < x.rk u ∧ x.rk v.toNat < x.rk w ∧ x.Hot C D u w ∧ x.low (u : Nat) (w : Nat) = (i : Nat) ∧ (u < a ∨ (u = a ∧ w < b))
theorem Ix.MvR_zero (x : Ix) (v : Int) (C D : Nat → Int) (i : Nat) : ¬ x.MvR v C D 0 0 i := by
  rintro ⟨_, u, w, _, _, _, _, _, _, _, h⟩
  omega
theorem Ix.MvR_all (x : Ix) (v : Int) (C D : Nat → Int) (i : Nat) : x.MvR v C D x.n 0 i ↔ x.Mv v C D i := by
  unfold Ix.MvR Ix.Mv
  constructor
  · rintro ⟨h0, u, w, h1, h2, h3, h4, h5, h6, h7, _⟩; exact ⟨h0, u, w, h1, h2, h3, h4, h5, h6, h7⟩
  · rintro ⟨h0, u, w, h1, h2, h3, h4, h5, h6, h7⟩; exact ⟨h0, u, w, h1, h2, h3, h4, h5, h6, h7, .inl h1⟩
theorem Ix.MvR_row (x : Ix) (v : Int) (C D : Nat → Int) (a i : Nat) : x.MvR v C D a x.n i ↔ x.MvR v C D (a + 1) 0 i := by
  unfold Ix.MvR
  constructor
  · rintro ⟨h0, u, w, h1, h2, h3, h4, h5, h6, h7, h8⟩; exact ⟨h0, u, w, h1, h2, h3, h4, h5, h6, h7, by omega⟩
  · rintro ⟨h0, u, w, h1, h2, h3, h4, h5, h6, h7, h8⟩; exact ⟨h0, u, w, h1, h2, h3, h4, h5, h6, h7, by omega⟩
/-- Does a pair count? -/
def Ix.Pair (x : Ix) (v : Int) (C D : Nat → Int) (u w : Nat) : Prop := x.vertex v = true ∧ u ≠ w ∧ x.rk v.toNat < x.rk u ∧ x.rk v.toNat < x.rk w ∧ x.Hot C D u w
theorem Ix.MvR_no {x : Ix} {v : Int} {C D : Nat → Int} {a b : Nat} (h : ¬ x.Pair v C D a b) (i : Nat) : x.MvR v C D a (b + 1) i ↔ x.MvR v C D a b i := by
  unfold Ix.MvR
  constructor
  · rintro ⟨h0, u, w, h1, h2, h3, h4, h5, h6, h7, h8⟩
    refine ⟨h0, u, w, h1, h2, h3, h4, h5, h6, h7, ?_⟩
    by_cases e : u = a ∧ w = b
    · obtain ⟨rfl, rfl⟩ := e
      exact absurd ⟨h0, h3, h4, h5, h6⟩ h
    · omega
  · rintro ⟨h0, u, w, h1, h2, h3, h4, h5, h6, h7, h8⟩; exact ⟨h0, u, w, h1, h2, h3, h4, h5, h6, h7, by omega⟩
theorem Ix.MvR_yes {x : Ix} {v : Int} {C D : Nat → Int} {a b k : Nat} (ha : a < x.n) (hb : b < x.n) (h : x.Pair v C D a b) (hk : x.low (a : Nat) (b : Nat) = (k : Nat)) (i : Nat) : x.MvR v C D a (b + 1) i ↔ (i = k ∨ x.MvR v C D a b i) := by
  unfold Ix.MvR
  constructor
  · rintro ⟨h0, u, w, h1, h2, h3, h4, h5, h6, h7, h8⟩
    by_cases e : u = a ∧ w = b
    · obtain ⟨rfl, rfl⟩ := e
      left; omega
    · right; exact ⟨h0, u, w, h1, h2, h3, h4, h5, h6, h7, by omega⟩
  · rintro (rfl | ⟨h0, u, w, h1, h2, h3, h4, h5, h6, h7, h8⟩)
    · exact ⟨h.1, a, b, ha, hb, h.2.1, h.2.2.1, h.2.2.2.1, h.2.2.2.2, hk, by omega⟩
    · exact ⟨h0, u, w, h1, h2, h3, h4, h5, h6, h7, by omega⟩

structure RmSt (w wr : World) (C D : Nat → Int) (m : Nat → Bool) : Prop where
  f : Fr No w wr
  c : StarAt wr w.heap.size 73 C
  d : StarAt wr (w.heap.size + 1) 73 D
  z : BoolAt wr (w.heap.size + 1 + 1) (fun _ => false)
  o : BoolAt wr (w.heap.size + 1 + 1 + 1) m
theorem RmSt.fr {w wr w2 : World} {C D : Nat → Int} {m : Nat → Bool} (h : RmSt w wr C D m) (hf : Fr No wr w2) : RmSt w w2 C D m :=
  ⟨h.f.trans hf, h.c.fr hf (fun h => h), h.d.fr hf (fun h => h), Blk.fr h.z hf (fun h => h), Blk.fr h.o hf (fun h => h)⟩
theorem RmSt.put {w wr : World} {C D : Nat → Int} {m : Nat → Bool} (h : RmSt w wr C D m) (k : Nat) : RmSt w (wr.setCell ⟨w.heap.size + 1 + 1 + 1, k, none⟩ (.bool true)) C D (updB m k) :=
  ⟨h.f.setCell (p := ⟨w.heap.size + 1 + 1 + 1, k, none⟩) (.inr (by show w.heap.size ≤ w.heap.size + 1 + 1 + 1; omega)) _,
   Blk.setCell_ne h.c (by show w.heap.size + 1 + 1 + 1 ≠ w.heap.size; omega) _, Blk.setCell_ne h.d (by show w.heap.size + 1 + 1 + 1 ≠ w.heap.size + 1; omega) _, Blk.setCell_ne h.z (by show w.heap.size + 1 + 1 + 1 ≠ w.heap.size + 1 + 1; omega) _, h.o.put k⟩
theorem BoolAt.new (W : World) : BoolAt (W.alloc (.cells (cellsB (fun _ => false)).toArray 82)) W.heap.size (fun _ => false) := by
  have := Blk.new W (cellsB (fun _ => false)).toArray 82 (fun i => .bool false) (fun i hi => by
    have hi' : i < 24 := by simpa [cellsB] using hi
    simp [cellsB, hi'])
  have e : (cellsB (fun _ => false)).toArray.size = 24 := by simp [cellsB]
  rw [e] at this
  exact this

set_option maxRecDepth 100000 in
set_option maxHeartbeats 4000000 in
theorem rmoves_calls {x : Ix} {w : World} {R : RxLoc} (h : RxMem w R x) (v : Int) (C D : Nat → Int) :
    Calls Tryd.prog 52 #[.pointer (some ⟨R.b, 0, none⟩), .int .i64 v, starV C, starV D] w fun e w' => ∃ m : Nat → Bool, e = .returned (boolsV m) ∧ (∀ i, m i = true ↔ x.Mv v C D i) ∧ Fr No w w' := by
  have hd1 : Tryd.prog.underlying 82 = some _ := Tryd.underlying82
  have hi1 : (Tryd.prog.info? 82).map (·.size) = some 24 := by kernel_rfl
  have hn2 := h.ok.n2
  have zl1 := h.lt
  have zl2 := h.hr.1
  have s1 := StarAt.lit w 73 C
  have s2 := StarAt.lit (w.alloc (.cells (cellsR 144 C).toArray 73)) 73 D
  rw [World.size_alloc] at s2
  unfold starV
  obtain ⟨X, hX⟩ : ∃ X, (cellsR 144 C).toArray = X := ⟨_, rfl⟩
  obtain ⟨Y, hY⟩ : ∃ Y, (cellsR 144 D).toArray = Y := ⟨_, rfl⟩
  rw [hX] at s1 s2 ⊢
  rw [hY] at s2 ⊢
  have H := hid h
  have HS1 := hid s1
  have HS2 := hid s2
  clear h hX hY s1 s2
  go_enter Tryd.func52, Tryd.ntmps52
  go_upto_region 2 with fail
  generalize hW : (((w.alloc (.cells X 73)).alloc (.cells Y 73)).alloc _).alloc _ = W1
  have hst : RmSt w W1 C D (fun _ => false) := by
    rw [← hW]
    refine ⟨((((Fr.refl No w).alloc _).alloc _).alloc _).alloc _, Blk.alloc (Blk.alloc (Blk.alloc HS1.out _) _) _, Blk.alloc (Blk.alloc HS2.out _) _, ?_, ?_⟩
    · have := BoolAt.new ((w.alloc (.cells X 73)).alloc (.cells Y 73))
      rw [World.size_alloc, World.size_alloc] at this
      exact Blk.alloc this _
    · have := BoolAt.new (((w.alloc (.cells X 73)).alloc (.cells Y 73)).alloc (.cells (cellsB (fun _ => false)).toArray 82))
      rw [World.size_alloc, World.size_alloc, World.size_alloc] at this
      exact this
  have HST0 := hid hst
  clear hW hst HS1 HS2
  go_wp2
  go_loopw [10] (fun i wr => ∃ (a : Nat) (m : Nat → Bool), a ≤ x.n ∧ i = .int .i64 a ∧ RmSt w wr C D m ∧ ∀ i, m i = true ↔ x.MvR v C D a 0 i) (fun i _ => 24 - (intOf i).toNat)
  case atStart => exact ⟨0, _, Nat.zero_le _, rfl, HST0.out, fun i => by simp [x.MvR_zero v C D i]⟩
  case round =>
    obtain ⟨a, m, ha, rfl, hst, hm⟩ := hrel
    have HST := hid hst
    have HM := hid hm
    have c0 := (H.out.no hst.f).c0
    clear hst hm HST0
    by_cases hlt : a < x.n
    · have hlt2 : (a : Int) < x.n := by omega
      go_wp2
      clear c0
      go_loopw [11] (fun i wr => ∃ (b : Nat) (m : Nat → Bool), b ≤ x.n ∧ i = .int .i64 b ∧ RmSt w wr C D m ∧ ∀ i, m i = true ↔ x.MvR v C D a b i) (fun i _ => 24 - (intOf i).toNat)
      case atStart => exact ⟨0, _, Nat.zero_le _, rfl, HST.out, HM.out⟩
      case round =>
        clear HST HM
        obtain ⟨b, m, hb, rfl, hst, hm⟩ := hrel
        have HST := hid hst
        have HM := hid hm
        have c0 := (H.out.no hst.f).c0
        clear hst hm
        by_cases hltb : b < x.n
        · have hltb2 : (b : Int) < x.n := by omega
          have hvt : ∀ n : Fam wr, Calls Tryd.prog 54 #[.pointer (some ⟨R.b, 0, none⟩), .int .i64 v] n.v fun e w' => e = .returned (.bool (x.vertex v)) ∧ Fr No n.v w' := fun n =>
            (rvertex_calls ((H.out.no HST.out.f).no n.h) v).mono fun e w' ⟨h1, h2⟩ => ⟨h1, by subst h2; exact Fr.refl _ _⟩
          have kkc : ∀ n : Fam wr, n.v.cell? ⟨R.b, 0, none⟩ = some (.slice (some ⟨R.br, 0, none⟩) x.n R.cr) := Fam.cell c0
          have kka : ∀ n : Fam wr, n.v.cell? ⟨R.br, a, none⟩ = some (.int .i64 (x.rk a : Nat)) := Fam.cell ((H.out.no HST.out.f).rk a hlt)
          have kkb : ∀ n : Fam wr, n.v.cell? ⟨R.br, b, none⟩ = some (.int .i64 (x.rk b : Nat)) := Fam.cell ((H.out.no HST.out.f).rk b hltb)
          obtain ⟨tv, htv⟩ : ∃ tv, x.vertex v = tv := ⟨_, rfl⟩
          rw [htv] at hvt
          cases tv with
          | false =>
            have HTV := hid htv
            clear htv
            go_wp2_with fail
            clear c0
            refine wp_region_fam (by kernel_rfl) (by kernel_rfl) ?_
            repeat (go_big_quiet_step (exact Calls.fam (hvt _)))
            refine wpQuiet_nil ?_
            rintro w3 ⟨⟨w3, hf3⟩, rfl⟩
            have HST3 := hid (HST.out.fr hf3)
            clear hf3 hvt kkc kka kkb
            go_wp2
            go_roundw
            case rel => exact ⟨b + 1, m, by omega, by go_num, HST3.out, fun i => (HM.out i).trans (Ix.MvR_no (fun h => by have := h.1; rw [HTV.out] at this; cases this) i).symm⟩
            case measure => simp [intOf]; omega
          | true =>
            have hv2 : 0 ≤ v ∧ v < x.n := by unfold Ix.vertex at htv; simpa using htv
            obtain ⟨p, rfl⟩ := Int.eq_ofNat_of_zero_le hv2.1
            have HTV := hid htv
            have hp : p < x.n := by omega
            have hp2 : (p : Int) < x.n := hv2.2
            have kkp : ∀ n : Fam wr, n.v.cell? ⟨R.br, p, none⟩ = some (.int .i64 (x.rk p : Nat)) := Fam.cell ((H.out.no HST.out.f).rk p hp)
            clear htv hv2
            by_cases hab : a = b
            · subst hab
              have hab1 : ((a : Int) == (a : Int)) = true := by simp
              go_wp2_with fail
              clear c0
              refine wp_region_fam (by kernel_rfl) (by kernel_rfl) ?_
              repeat (go_big_quiet_step (exact Calls.fam (hvt _)))
              refine wpQuiet_nil ?_
              rintro w3 ⟨⟨w3, hf3⟩, rfl⟩
              have HST3 := hid (HST.out.fr hf3)
              clear hf3 hvt kkc kka kkb kkp
              go_wp2
              go_roundw
              case rel => exact ⟨a + 1, m, by omega, by go_num, HST3.out, fun i => (HM.out i).trans (Ix.MvR_no (fun h => h.2.1 rfl) i).symm⟩
              case measure => simp [intOf]; omega
            · have hab1 : ((a : Int) == (b : Int)) = false := by simp; omega
              have HAB := hid hab
              clear hab
              by_cases h1 : x.rk a ≤ x.rk p
              · have h1a : decide ((x.rk a : Int) ≤ (x.rk p : Nat)) = true := by simpa using h1
                have h1b : ((x.rk a : Int) ≤ (x.rk p : Nat)) = True := by simpa using h1
                have H1 := hid h1
                clear h1
                go_wp2_with fail
                clear c0
                refine wp_region_fam (by kernel_rfl) (by kernel_rfl) ?_
                repeat (go_big_quiet_step (exact Calls.fam (hvt _)))
                refine wpQuiet_nil ?_
                rintro w3 ⟨⟨w3, hf3⟩, rfl⟩
                have HST3 := hid (HST.out.fr hf3)
                clear hf3 hvt kkc kka kkb kkp
                go_wp2
                go_roundw
                case rel => exact ⟨b + 1, m, by omega, by go_num, HST3.out, fun i => (HM.out i).trans (Ix.MvR_no (fun h => by have := h.2.2.1; have := H1.out; simp only [Int.toNat_natCast] at *; omega) i).symm⟩
                case measure => simp [intOf]; omega
              · have h1a : decide ((x.rk a : Int) ≤ (x.rk p : Nat)) = false := by simpa using h1
                have h1b : ((x.rk a : Int) ≤ (x.rk p : Nat)) = False := by simpa using h1
                have H1 := hid h1
                clear h1
                by_cases h2 : x.rk b ≤ x.rk p
                · have h2a : decide ((x.rk b : Int) ≤ (x.rk p : Nat)) = true := by simpa using h2
                  have h2b : ((x.rk b : Int) ≤ (x.rk p : Nat)) = True := by simpa using h2
                  have H2 := hid h2
                  clear h2
                  go_wp2_with fail
                  clear c0
                  refine wp_region_fam (by kernel_rfl) (by kernel_rfl) ?_
                  repeat (go_big_quiet_step (exact Calls.fam (hvt _)))
                  refine wpQuiet_nil ?_
                  rintro w3 ⟨⟨w3, hf3⟩, rfl⟩
                  have HST3 := hid (HST.out.fr hf3)
                  clear hf3 hvt kkc kka kkb kkp
                  go_wp2
                  go_roundw
                  case rel => exact ⟨b + 1, m, by omega, by go_num, HST3.out, fun i => (HM.out i).trans (Ix.MvR_no (fun h => by have := h.2.2.2.1; have := H2.out; simp only [Int.toNat_natCast] at *; omega) i).symm⟩
                  case measure => simp [intOf]; omega
                · have h2a : decide ((x.rk b : Int) ≤ (x.rk p : Nat)) = false := by simpa using h2
                  have h2b : ((x.rk b : Int) ≤ (x.rk p : Nat)) = False := by simpa using h2
                  have H2 := hid h2
                  clear h2
                  go_wp2_with fail
                  clear c0
                  refine wp_region_fam (by kernel_rfl) (by kernel_rfl) ?_
                  repeat (go_big_quiet_step (exact Calls.fam (hvt _)))
                  refine wpQuiet_nil ?_
                  rintro w3 ⟨⟨w3, hf3⟩, rfl⟩
                  have HST3 := hid (HST.out.fr hf3)
                  clear hf3 hvt kkc kka kkb kkp HST
                  have ha24 : (a : Int) < 24 := by omega
                  have hb24 : (b : Int) < 24 := by omega
                  have htwo : x.two (a : Nat) (b : Nat) = true := by have := HAB.out; unfold Ix.two; simp; omega
                  have hlow : x.low (a : Nat) (b : Nat) = (((if x.rk a < x.rk b then a else b) : Nat) : Int) := by
                    unfold Ix.low
                    rw [if_pos htwo]
                    simp only [Int.toNat_natCast]
                    split <;> rfl
                  obtain ⟨lw, hlw⟩ : ∃ lw, (if x.rk a < x.rk b then a else b) = lw := ⟨_, rfl⟩
                  have hlwn : (lw : Int) < 24 := by rw [← hlw]; split <;> omega
                  rw [hlw] at hlow
                  have HLOW := hid hlow
                  have hpair : x.Hot C D a b → x.Pair (p : Nat) C D a b := fun hh => ⟨HTV.out, HAB.out, by have := H1.out; simp only [Int.toNat_natCast]; omega, by have := H2.out; simp only [Int.toNat_natCast]; omega, hh⟩
                  have HPAIR := hid hpair
                  have hhot : x.Hot C D a b ↔ (sumS C a b ≠ sumS D a b ∧ min (sumS C a b) (sumS D a b) ≤ (x.at_ (a : Nat) (b : Nat)).w) := Iff.rfl
                  rw [at_nat htwo] at hhot
                  obtain ⟨⟨t0, t1, t2⟩, hat⟩ : ∃ en, x.ent a b = en := ⟨_, rfl⟩
                  rw [hat] at hhot
                  simp only at hhot
                  have q0 := Blk.cell HST3.out.c (i := 72 + a * 3) (by omega)
                  have q1 := Blk.cell HST3.out.c (i := b * 3) (by omega)
                  have hs1 : sumS C a b = add1 (normI (C (72 + a * 3))) (C (b * 3)) := rfl
                  obtain ⟨y1, hy1⟩ : ∃ y, C (72 + a * 3) = y := ⟨_, rfl⟩
                  obtain ⟨y2, hy2⟩ : ∃ y, C (b * 3) = y := ⟨_, rfl⟩
                  obtain ⟨s1, hss1⟩ : ∃ y, sumS C a b = y := ⟨_, rfl⟩
                  rw [hy1] at q0 hs1
                  rw [hy2] at q1 hs1
                  rw [hss1] at hs1 hhot
                  have hsm1 : ∀ n : Fam w3, Calls Tryd.prog 82 #[.int .i64 y1, .int .i64 y2] n.v fun e w' => e = .returned (.int .i64 s1) ∧ Fr No n.v w' := fun n => by rw [hs1]; exact rsum_calls y1 y2 n.v
                  have kk0 : ∀ n : Fam w3, n.v.cell? ⟨w.heap.size, 72 + a * 3, none⟩ = some (.int .i64 y1) := Fam.cell q0
                  have kk1 : ∀ n : Fam w3, n.v.cell? ⟨w.heap.size, b * 3, none⟩ = some (.int .i64 y2) := Fam.cell q1
                  have HHOT := hid hhot
                  have HAT := hid hat
                  clear q0 q1 hs1 hy1 hy2 hss1 hhot hat hpair hlow hlw htwo h1a h1b h2a h2b hab1
                  go_wp2_with fail
                  refine wp_region_fam (by kernel_rfl) (by kernel_rfl) ?_
                  repeat (go_big_quiet_step (exact Calls.fam (hsm1 _)))
                  refine wpQuiet_nil ?_
                  rintro w4 ⟨⟨w4, hf4⟩, rfl⟩
                  have HST4 := hid (HST3.out.fr hf4)
                  clear hf4 hsm1 kk0 kk1 HST3
                  have hhot := HHOT.out
                  have q0 := Blk.cell HST4.out.d (i := 72 + a * 3) (by omega)
                  have q1 := Blk.cell HST4.out.d (i := b * 3) (by omega)
                  have hs1 : sumS D a b = add1 (normI (D (72 + a * 3))) (D (b * 3)) := rfl
                  obtain ⟨y1, hy1⟩ : ∃ y, D (72 + a * 3) = y := ⟨_, rfl⟩
                  obtain ⟨y2, hy2⟩ : ∃ y, D (b * 3) = y := ⟨_, rfl⟩
                  obtain ⟨s2, hss1⟩ : ∃ y, sumS D a b = y := ⟨_, rfl⟩
                  rw [hy1] at q0 hs1
                  rw [hy2] at q1 hs1
                  rw [hss1] at hs1 hhot
                  have hsm1 : ∀ n : Fam w4, Calls Tryd.prog 82 #[.int .i64 y1, .int .i64 y2] n.v fun e w' => e = .returned (.int .i64 s2) ∧ Fr No n.v w' := fun n => by rw [hs1]; exact rsum_calls y1 y2 n.v
                  have kk0 : ∀ n : Fam w4, n.v.cell? ⟨w.heap.size + 1, 72 + a * 3, none⟩ = some (.int .i64 y1) := Fam.cell q0
                  have kk1 : ∀ n : Fam w4, n.v.cell? ⟨w.heap.size + 1, b * 3, none⟩ = some (.int .i64 y2) := Fam.cell q1
                  have HHOT2 := hid hhot
                  clear q0 q1 hs1 hy1 hy2 hss1 hhot HHOT
                  go_wp2_with fail
                  refine wp_region_fam (by kernel_rfl) (by kernel_rfl) ?_
                  repeat (go_big_quiet_step (exact Calls.fam (hsm1 _)))
                  refine wpQuiet_nil ?_
                  rintro w5 ⟨⟨w5, hf5⟩, rfl⟩
                  have HST5 := hid (HST4.out.fr hf5)
                  clear hf5 hsm1 kk0 kk1 HST4
                  have k0 := (H.out.no HST5.out.f).at_pl (u := a) (v := b) (by omega) (by omega) 0 (by omega)
                  rw [Nat.add_zero, HAT.out] at k0
                  simp only [En.cell, if_true] at k0
                  by_cases hs : s1 = s2
                  · subst hs
                    go_wp2
                    go_roundw
                    case rel => exact ⟨b + 1, m, by omega, by go_num, HST5.out, fun i => (HM.out i).trans (Ix.MvR_no (fun h => (HHOT2.out.1 h.2.2.2.2).1 rfl) i).symm⟩
                    case measure => simp [intOf]; omega
                  · have hs2 : (s1 != s2) = true := by simpa using hs
                    have HSN := hid hs
                    clear hs
                    by_cases hl : min s1 s2 ≤ t0
                    · have HH := hid (HHOT2.out.2 ⟨HSN.out, hl⟩)
                      have hfz := fun i => Blk.frozen HST5.out.o i
                      have hol := Blk.lt HST5.out.o
                      have hor : s1 ≤ t0 ∨ (¬ s1 ≤ t0 ∧ s2 ≤ t0) := by omega
                      clear hl
                      rcases hor with hl | ⟨hl1, hl⟩
                      · go_wp2_with fail
                        refine (rlow_calls (H.out.no HST5.out.f) _ _).mono ?_
                        rintro e w6 ⟨rfl, hf6⟩
                        rw [HLOW.out]
                        have HST6 := hid (HST5.out.fr hf6)
                        have z0 := Blk.cell HST6.out.o (i := lw) (by omega)
                        have z3 := fun i => Blk.frozen HST6.out.o i
                        clear hf6 HST5 k0 hfz
                        go_wp2
                        go_roundw
                        case rel =>
                          refine ⟨b + 1, updB m lw, by omega, by go_num, HST6.out.put lw, fun i => ?_⟩
                          rw [Ix.MvR_yes hlt hltb (HPAIR.out HH.out) HLOW.out, ← HM.out i]
                          unfold updB
                          by_cases e : i = lw
                          · simp [e]
                          · simp [e]
                        case measure => simp [intOf]; omega
                      · go_wp2_with fail
                        refine (rlow_calls (H.out.no HST5.out.f) _ _).mono ?_
                        rintro e w6 ⟨rfl, hf6⟩
                        rw [HLOW.out]
                        have HST6 := hid (HST5.out.fr hf6)
                        have z0 := Blk.cell HST6.out.o (i := lw) (by omega)
                        have z3 := fun i => Blk.frozen HST6.out.o i
                        clear hf6 HST5 k0 hfz
                        go_wp2
                        go_roundw
                        case rel =>
                          refine ⟨b + 1, updB m lw, by omega, by go_num, HST6.out.put lw, fun i => ?_⟩
                          rw [Ix.MvR_yes hlt hltb (HPAIR.out HH.out) HLOW.out, ← HM.out i]
                          unfold updB
                          by_cases e : i = lw
                          · simp [e]
                          · simp [e]
                        case measure => simp [intOf]; omega
                    · have hl1 : ¬ s1 ≤ t0 := by omega
                      have hl2 : ¬ s2 ≤ t0 := by omega
                      have HL := hid hl
                      clear hl
                      go_wp2
                      go_roundw
                      case rel => exact ⟨b + 1, m, by omega, by go_num, HST5.out, fun i => (HM.out i).trans (Ix.MvR_no (fun h => HL.out (HHOT2.out.1 h.2.2.2.2).2) i).symm⟩
                      case measure => simp [intOf]; omega
        · obtain rfl : b = x.n := by omega
          go_wp2
          go_roundw
          case rel => exact ⟨a + 1, m, by omega, by go_num, HST.out, fun i => (HM.out i).trans (x.MvR_row v C D a i)⟩
          case measure => simp [intOf]; omega
    · obtain rfl : a = x.n := by omega
      have hm2 := fun i => (HM.out i).trans (x.MvR_all v C D i)
      have HM2 := hid hm2
      have hrg := HST.out.o.range
      have ht2 : wr.there (w.heap.size + 1 + 1) 0 24 := Blk.thereR HST.out.z 0 24 (by omega)
      have hr2 := HST.out.z.set m
      have ho1 := cellsB_one m
      have hl1 := cellsB_len m
      have f2 : Fr No w (wr.setCells (w.heap.size + 1 + 1) 0 (cellsB m)) := Fr.setCellsL (.inr (by omega)) _ _ _ HST.out.f
      have hlv : (loadVar 82 ⟨w.heap.size + 1 + 1, 0, none⟩).run Tryd.prog (wr.setCells (w.heap.size + 1 + 1) 0 (cellsB m)) = .ok (boolsV m) _ := run_loadVar_mid _ _ 0 82 _ _ hr2.range hd1 rfl (by rw [hi1, cellsB_len])
      obtain ⟨Z, hZ⟩ : ∃ Z, cellsB m = Z := ⟨_, rfl⟩
      rw [hZ] at hrg ho1 hl1 f2 hlv
      have HF2 := hid f2
      have HLV := hid hlv
      clear hm2 hr2 f2 hlv hZ HST HM
      go_wp2_with (first
        | (refine wpList_load_mid rfl 82 (.tmp 9) rfl (w.heap.size + 1 + 1 + 1) 0 rfl Z _ hrg hd1 rfl (by rw [hi1, hl1]) ?_)
        | (refine wpList_store_mid rfl 82 (.tmp 8) (.tmp 125) rfl (w.heap.size + 1 + 1) 0 Z.toArray rfl rfl (by simpa [hl1] using ht2) (by rw [hi1]; simp [hl1]) ho1 ?_; simp only [List.toList_toArray]))
      exact bodyPost_ret (v := boolsV m) (results_cell rfl rfl HLV.out) rfl ⟨m, rfl, HM2.out, HF2.out⟩

end Go.Proofs.YtlncmnphjdeeoaaDoor
