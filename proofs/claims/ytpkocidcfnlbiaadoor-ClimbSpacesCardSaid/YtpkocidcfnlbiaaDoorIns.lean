/- Whether two indices are the same; walked. -/
import Derived.Test.YtpkocidcfnlbiaaDoorBig
import Derived.Test.YtpkocidcfnlbiaaDoorFam
import Derived.Deep.MidRow
import Derived.Test.YtpkocidcfnlbiaaDoorAwk
import Derived.Test.YtpkocidcfnlbiaaDoorShelf
set_option linter.unusedVariables false
set_option linter.unusedSimpArgs false
namespace Go.Proofs.YtpkocidcfnlbiaaDoor
open Go.RowKit Go.Deep

theorem quiet_load {P : Program} {C : World → Prop} {o : Oper} {a : Act} {K : Act → Prop} (ty : TypeId) (x : Operand) (ho : o.op = .load ty x) (p v : Value) (hx : a.eval x = p) (hl : ∀ w, C w → (Instr.loadAt ty p).run P w = .ok v w) (hk : K (a.put o.dst v)) : o.quiet P a C K :=
  ⟨v, fun w hw => by
    have h := hl w hw
    unfold Oper.quietAt execOp
    simp only [ho, hx, Sem.run_bind, h, Result.andThen_ok, Sem.run_pure]
    exact ⟨rfl, rfl⟩, hk⟩

theorem Ix.K_wf {x : Ix} (h : x.Ok) : Wf x.K := fun i => by
  unfold Ix.K
  split
  · have hb : ∀ (e : En) c, e.Ok → -9223372036854775808 ≤ e.kf c ∧ e.kf c ≤ 9223372036854775807 := fun e c ho => by
      obtain ⟨h1, h2, h3, h4, h5, h6⟩ := ho
      unfold En.kf
      split
      · omega
      · split <;> omega
    split <;> exact hb _ _ (h.ent _ _)
  · omega

theorem IxMem.range {w : World} {L : IxLoc} {x : Ix} (h : IxMem w L x) : w.rangeAt L.b 2 (cellsR 3456 x.K) := fun j v hv => by
  rcases Nat.lt_or_ge j 3456 with hj | hj
  · simp only [cellsR, List.getElem?_map, List.getElem?_range hj, Option.map_some, Option.some.injEq] at hv
    subst hv
    rw [h.blk.cell (by omega), Ix.V, if_neg (by omega), if_neg (by omega), show 2 + j - 2 = j by omega]
  · rw [List.getElem?_eq_none (by simpa [cellsR] using hj)] at hv; cases hv

end Go.Proofs.YtpkocidcfnlbiaaDoor

/- A copy of an index; walked. -/
set_option linter.unusedVariables false
set_option linter.unusedSimpArgs false
namespace Go.Proofs.YtpkocidcfnlbiaaDoor
open Go.RowKit Go.Deep

theorem Blk.setCells {b n : Nat} {T : TypeId} : ∀ (vs : List Value) (o : Nat) (w : World) (V : Nat → Value), Blk w b n T V →
    Blk (w.setCells b o vs) b n T (fun i => if o ≤ i ∧ i < o + vs.length then vs.getD (i - o) undef else V i)
  | [], o, w, V, h => h.congr fun i _ => by simp; intro h1 h2; omega
  | v :: r, o, w, V, h => by
    rw [World.setCells]
    refine (Blk.setCells r (o + 1) _ _ (h.setCell o v)).congr fun i _ => ?_
    simp only [upd, List.length_cons]
    by_cases e : i = o
    · subst e
      rw [if_neg (by omega), if_pos rfl, if_pos (by omega)]
      simp
    · rw [if_neg e]
      by_cases e2 : o + 1 ≤ i ∧ i < o + 1 + r.length
      · rw [if_pos e2, if_pos (by omega), show i - o = (i - (o + 1)) + 1 by omega]
        simp
      · rw [if_neg e2, if_neg (by omega)]

theorem Fr.setCellsL {F : Nat → Prop} {a : World} {b : Nat} (hb : F b ∨ a.heap.size ≤ b) : ∀ (vs : List Value) (o : Nat) (w : World), Fr F a w → Fr F a (w.setCells b o vs)
  | [], _, _, h => h
  | v :: r, o, w, h => by rw [World.setCells]; exact Fr.setCellsL hb r (o + 1) _ (h.setCell (p := ⟨b, o, none⟩) hb v)

def cellsV (x : Ix) (L : IxLoc) : List Value := (List.range 3458).map (x.V L)
theorem cellsV_len (x : Ix) (L : IxLoc) : (cellsV x L).length = 3458 := by simp [cellsV]
theorem IxMem.rangeV {w : World} {L : IxLoc} {x : Ix} (h : IxMem w L x) : w.rangeAt L.b 0 (cellsV x L) := fun j v hv => by
  rcases Nat.lt_or_ge j 3458 with hj | hj
  · simp only [cellsV, List.getElem?_map, List.getElem?_range hj, Option.map_some, Option.some.injEq] at hv
    subst hv
    rw [Nat.zero_add, h.blk.cell hj]
  · rw [List.getElem?_eq_none (by simpa [cellsV] using hj)] at hv; cases hv

theorem cellsV_one (x : Ix) (L : IxLoc) : (cellsV x L).toArray.all (·.oneCell') = true := all_oneCell_toArray fun v hv => by
  simp only [cellsV, List.mem_map] at hv
  obtain ⟨i, _, rfl⟩ := hv
  unfold Ix.V
  split
  · rfl
  · split <;> rfl

theorem Blk.cellsV {w : World} {b : Nat} {T : TypeId} {V : Nat → Value} (h : Blk w b 3458 T V) (x : Ix) (L : IxLoc) : Blk (w.setCells b 0 (cellsV x L)) b 3458 T (x.V L) :=
  (Blk.setCells _ 0 w V h).congr fun i hi => by
    rw [cellsV_len, if_pos (by omega)]
    simp [Go.Proofs.YtpkocidcfnlbiaaDoor.cellsV, List.getD, hi]

theorem Blk.there {w : World} {b n : Nat} {T : TypeId} {V : Nat → Value} (h : Blk w b n T V) : w.there b 0 n := fun j hj =>
  ⟨by rw [Nat.zero_add, h.cell hj]; rfl, h.frozen _⟩

theorem zeroBlk (w : World) : ∃ V, Blk (w.alloc (.cells Tryd.zeroCells94 94)) w.heap.size 3458 94 V :=
  ⟨fun i => Tryd.zeroCells94.getD i undef, _, heap_new _ _, by simp [Tryd.zeroCells94_size], fun i hi => by
    simp [hi, Tryd.zeroCells94_size]⟩

theorem copy_end {w W2 w3 w4 : World} {L : IxLoc} {x : Ix} {c ga ca gb cb : Nat} (hc : w.heap.size = c) (H : IxMem w L x) (HX : IxMem W2 L x) (kB : Blk W2 c 3458 94 (x.V L)) (kF : Fr No w W2) (hA : Fr No W2 w3)
    (hga : W2.heap.size ≤ ga) (hla : ga < w3.heap.size) (hna : ∀ j, j < x.n → w3.cell? ⟨ga, j, none⟩ = some (.int .i64 (x.rk j)))
    (hB : Fr No w3 w4) (hgb : w3.heap.size ≤ gb) (hlb : gb < w4.heap.size) (hnb : ∀ j, j < x.n → w4.cell? ⟨gb, j, none⟩ = some (.int .i64 (x.by_ j))) :
    ∃ C : IxLoc, Ending.returned (.pointer (some ⟨c, 0, none⟩)) = .returned (.pointer (some ⟨C.b, 0, none⟩)) ∧
      Fr No w ((w4.setCell ⟨c, 0, none⟩ (.slice (some ⟨ga, 0, none⟩) x.n ca)).setCell ⟨c, 1, none⟩ (.slice (some ⟨gb, 0, none⟩) x.n cb)) ∧
      IxMem ((w4.setCell ⟨c, 0, none⟩ (.slice (some ⟨ga, 0, none⟩) x.n ca)).setCell ⟨c, 1, none⟩ (.slice (some ⟨gb, 0, none⟩) x.n cb)) C x ∧ w.heap.size ≤ C.b ∧ w.heap.size ≤ C.br ∧ w.heap.size ≤ C.bb ∧ C.br ≠ C.b ∧ C.bb ≠ C.b := by
  have s1 := kF.size
  have s2 := hA.size
  have s3 := hB.size
  have hcl := kB.lt
  have hF4 : Fr No w w4 := (kF.trans hA).trans hB
  have hFc : Fr (One c) w4 ((w4.setCell ⟨c, 0, none⟩ (.slice (some ⟨ga, 0, none⟩) x.n ca)).setCell ⟨c, 1, none⟩ (.slice (some ⟨gb, 0, none⟩) x.n cb)) := ((Fr.refl _ _).set1 _ _).set1 _ _
  have hgn := H.gn.lt
  refine ⟨⟨c, ga, gb, ca, cb⟩, rfl, (hF4.setCell (p := ⟨c, 0, none⟩) (.inr (by show w.heap.size ≤ c; omega)) _).setCell (p := ⟨c, 1, none⟩) (.inr (by show w.heap.size ≤ c; omega)) _, ⟨H.ok, ?_, ?_, ?_, ?_, ?_, ?_, ?_⟩, by show w.heap.size ≤ c; omega, ?_, ?_, ?_, ?_⟩
  · refine ((((kB.fr hA (fun h => h)).fr hB (fun h => h)).setCell 0 _).setCell 1 _).congr fun i hi => ?_
    unfold upd Ix.V
    by_cases e1 : i = 1
    · subst e1; rfl
    · by_cases e0 : i = 0
      · subst e0; rfl
      · simp [e0, e1]
  · show Nums _ ga x.n x.rk
    exact Nums.of_fr (fun j hj => hB.cell_some (hna j hj) (fun h => h)) hFc (by omega) (by show ¬ ga = c; omega)
  · show Nums _ gb x.n x.by_
    exact Nums.of_fr hnb hFc (by omega) (by show ¬ gb = c; omega)
  · exact ⟨by simp; omega, by show ga ≠ c; omega⟩
  · exact ⟨by simp; omega, by show gb ≠ c; omega⟩
  · exact (H.gn.fr hF4 (fun h => h)).fr hFc (by show ¬ _ = c; omega)
  · exact ⟨by show c ≠ 0; omega, by show ga ≠ 0; omega, by show gb ≠ 0; omega⟩
  · show w.heap.size ≤ ga; omega
  · show w.heap.size ≤ gb; omega
  · show ga ≠ c; omega
  · show gb ≠ c; omega

end Go.Proofs.YtpkocidcfnlbiaaDoor

/- A list of numbers in a row of its own: slices.Insert by its four roads; graph.with, graph.without; walked. -/
set_option linter.unusedVariables false
set_option linter.unusedSimpArgs false
namespace Go.Proofs.YtpkocidcfnlbiaaDoor
open Go.RowKit Go.Deep

/-- A list lies in a row of capacity c. -/
def ILat (w : World) (g : Nat) (l : List Int) (c : Nat) : Prop :=
  ∃ V : Nat → Int, Blk w g c 3 (fun i => .int .i64 (V i)) ∧ l.length ≤ c ∧ c ≤ 9223372036854775807 ∧ ∀ j, j < l.length → V j = l.getD j 0
def IL (w : World) (l : List Int) (c : Nat) : Option Nat → Prop
  | none => l = [] ∧ c = 0
  | some g => ILat w g l c
def ilv (l : List Int) (c : Nat) : Option Nat → Value
  | none => .slice none 0 0
  | some g => .slice (some ⟨g, 0, none⟩) l.length c
theorem ILat.fr {w w' : World} {g c : Nat} {l : List Int} (h : ILat w g l c) {F : Nat → Prop} (hf : Fr F w w') (hF : ¬ F g) : ILat w' g l c := by
  obtain ⟨V, h1, h2, h3, h4⟩ := h
  exact ⟨V, h1.fr hf hF, h2, h3, h4⟩
theorem IL.fr {w w' : World} {g : Option Nat} {c : Nat} {l : List Int} (h : IL w l c g) {F : Nat → Prop} (hf : Fr F w w') (hF : ∀ k, g = some k → ¬ F k) : IL w' l c g := by
  cases g with
  | none => exact h
  | some g => exact ILat.fr h hf (hF g rfl)
theorem ILat.lt {w : World} {g c : Nat} {l : List Int} (h : ILat w g l c) : g < w.heap.size := by
  obtain ⟨V, h1, _⟩ := h
  exact h1.lt

def insA (l : List Int) (a : Nat) (id : Int) : List Int := l.take a ++ id :: l.drop a
theorem insA_len (l : List Int) (a : Nat) (id : Int) (ha : a ≤ l.length) : (insA l a id).length = l.length + 1 := by
  unfold insA; simp; omega
theorem insA_getD (l : List Int) (a : Nat) (id : Int) (ha : a ≤ l.length) (j : Nat) : (insA l a id).getD j 0 = if j < a then l.getD j 0 else if j = a then id else l.getD (j - 1) 0 := by
  unfold insA
  have hl : (l.take a).length = a := by simp; omega
  simp only [List.getD]
  by_cases h1 : j < a
  · rw [if_pos h1, List.getElem?_append_left (by omega), List.getElem?_take_of_lt h1]
  · rw [if_neg h1, List.getElem?_append_right (by omega), hl]
    by_cases h2 : j = a
    · subst h2; simp
    · rw [if_neg h2]
      obtain ⟨k, rfl⟩ : ∃ k, j = a + 1 + k := ⟨j - (a + 1), by omega⟩
      rw [show a + 1 + k - a = k + 1 by omega, List.getElem?_cons_succ, List.getElem?_drop, show a + 1 + k - 1 = a + k by omega]

theorem cellsR_drop (n i : Nat) (f : Nat → Int) : (cellsR n f).drop i = cellsR (n - i) (fun j => f (i + j)) := by
  apply List.ext_getElem?
  intro j
  rw [List.getElem?_drop]
  by_cases h : j < n - i
  · rw [cellsR, List.getElem?_map, List.getElem?_range (by omega), cellsR, List.getElem?_map, List.getElem?_range h]; rfl
  · rw [List.getElem?_eq_none (by simp [cellsR]; omega), List.getElem?_eq_none (by simp [cellsR]; omega)]
theorem cellsR_take (n i : Nat) (f : Nat → Int) (h : i ≤ n) : (cellsR n f).take i = cellsR i f := by
  apply List.ext_getElem?
  intro j
  by_cases hj : j < i
  · rw [List.getElem?_take_of_lt hj, cellsR, List.getElem?_map, List.getElem?_range (by omega), cellsR, List.getElem?_map, List.getElem?_range hj]
  · rw [List.getElem?_eq_none (by simp [cellsR]; omega), List.getElem?_eq_none (by simp [cellsR]; omega)]
theorem cellsR_len2 (m : Nat) (C : Nat → Int) : (cellsR m C).length = m := by simp [cellsR]
theorem cellsR_mem {m : Nat} {f : Nat → Int} : ∀ v ∈ cellsR m f, v.oneCell' = true := fun v hv => by
  simp only [cellsR, List.mem_map] at hv
  obtain ⟨i, _, rfl⟩ := hv
  rfl
theorem cellsR_get {m : Nat} {f : Nat → Int} {j : Nat} {v : Value} (h : (cellsR m f)[j]? = some v) : j < m ∧ v = .int .i64 (f j) := by
  rcases Nat.lt_or_ge j m with hj | hj
  · rw [cellsR, List.getElem?_map, List.getElem?_range hj] at h
    simp at h
    exact ⟨hj, h.symm⟩
  · rw [List.getElem?_eq_none (by simpa [cellsR] using hj)] at h; cases h
theorem Blk.setR2 {w : World} {b n : Nat} {T : TypeId} {C C' : Nat → Int} (h : Blk w b n T (fun i => .int .i64 (C i))) (o m : Nat) (D : Nat → Int) (h1 : ∀ i, i < n → C' i = if o ≤ i ∧ i < o + m then D (i - o) else C i) :
    Blk (w.setCells b o (cellsR m D)) b n T (fun i => .int .i64 (C' i)) :=
  (Blk.setCells _ o w _ h).congr fun i hi => by
    rw [cellsR_len2, h1 i hi]
    by_cases hc : o ≤ i ∧ i < o + m
    · rw [if_pos hc, if_pos hc]
      have : i - o < m := by omega
      simp [cellsR, List.getD, this]
    · rw [if_neg hc, if_neg hc]
theorem zc_get (n i : Nat) (h : i < n) : (Builtin.zeroCells (Value.int .i64 0).cells n)[i]? = some (.int .i64 0) := by
  have : (Value.int .i64 0).cells = #[.int .i64 0] := rfl
  rw [this]
  simp [Builtin.zeroCells, h]
  rw [show i % 1 = 0 by omega]
  rfl
theorem zc_size (n : Nat) : (Builtin.zeroCells (Value.int .i64 0).cells n).size = n := by
  have : (Value.int .i64 0).cells = #[.int .i64 0] := rfl
  rw [this]
  simp [Builtin.zeroCells]

set_option maxRecDepth 100000 in
set_option maxHeartbeats 1000000 in
theorem ins_calls (g : Option Nat) (l : List Int) (c a : Nat) (id : Int) (W : World) (h : IL W l c g) (vb : Nat) (hvb : W.heap[vb]? = some (.cells #[.int .i64 id] 3)) (hne : ∀ k, g = some k → k ≠ vb) (ha : a ≤ l.length) (hl : l.length ≤ 64) :
    Calls Tryd.prog 60 #[ilv l c g, .int .i64 (a : Nat), .slice (some ⟨vb, 0, none⟩) 1 1] W fun e w' => ∃ c' g', e = .returned (ilv (insA l a id) c' (some g')) ∧ ILat w' g' (insA l a id) c' ∧ ((g = some g' ∧ Fr (One g') W w') ∨ (W.heap.size ≤ g' ∧ Fr No W w')) := by
  have hlen := insA_len l a id ha
  have hget := insA_getD l a id ha
  have hvs : ∀ j v, (cellsR 1 fun _ => id)[j]? = some v → W.cell? ⟨vb, 0 + j, none⟩ = some v := fun j v hv => by
    obtain ⟨hj, rfl⟩ := cellsR_get hv
    obtain rfl : j = 0 := by omega
    exact cell_of hvb 0
  have hG1 : ∀ need old, need ≤ 65 → need ≤ grownCap W need old 3 ∧ grownCap W need old 3 ≤ 9223372036854775807 := fun need old hn => by
    have h1 := grownCap_ge W need old 3
    have h2 := grownCap_le_maxLen W need old 3 (by unfold maxLen; omega)
    unfold maxLen at h2
    exact ⟨h1, by omega⟩
  cases g with
  | none =>
    obtain ⟨rfl, rfl⟩ := h
    obtain rfl : a = 0 := by simpa using ha
    refine (Tryd.slices_Insert_int_end_grow none 0 0 vb 0 1 1 [] (cellsR 1 fun _ => id) W (by omega) (by omega) (by omega) (by omega) rfl (cellsR_len2 _ _) (fun _ => rfl) (fun a h => by cases h) hvs cellsR_mem).mono ?_
    rintro e w' ⟨rfl, rfl⟩
    obtain ⟨k1, k2⟩ := hG1 (0 + 1) 0 (by omega)
    generalize grownCap W (0 + 1) 0 3 = G at k1 k2 ⊢
    refine ⟨G, W.heap.size, rfl, ⟨fun j => if j = 0 then id else 0, ?_, by rw [hlen]; simpa using k1, k2, ?_⟩, .inr ⟨Nat.le_refl _, ((Fr.refl No W).drew.alloc _)⟩⟩
    · have := Blk.new W.drew (([] ++ cellsR 1 fun _ => id).toArray ++ Builtin.zeroCells (Value.int .i64 0).cells (G - (0 + 1))) 3 (fun j => .int .i64 (if j = 0 then id else 0)) (fun i hi => by
        rw [Array.getElem?_append]
        by_cases h0 : i = 0
        · subst h0; rfl
        · rw [if_neg (by simp [cellsR]; omega), zc_get _ _ (by simp [cellsR, zc_size] at hi ⊢; omega), if_neg h0])
      have e : (([] ++ cellsR 1 fun _ => id).toArray ++ Builtin.zeroCells (Value.int .i64 0).cells (G - (0 + 1))).size = G := by simp [cellsR, zc_size]; omega
      rw [e] at this
      exact this
    · intro j hj
      rw [hlen] at hj
      obtain rfl : j = 0 := by simpa using hj
      rfl
  | some g =>
    obtain ⟨V, hb, h1, h2, h3⟩ := h
    have hgv : g ≠ vb := hne g rfl
    have hcs : ∀ j v, (cellsR l.length fun j => l.getD j 0)[j]? = some v → W.cell? ⟨g, 0 + j, none⟩ = some v := fun j v hv => by
      obtain ⟨hj, rfl⟩ := cellsR_get hv
      rw [Nat.zero_add, hb.cell (by omega), h3 j hj]
    have hall : ∀ j, j < c → (W.cell? ⟨g, 0 + j, none⟩).isSome = true := fun j hj => by rw [Nat.zero_add, hb.cell hj]; rfl
    have hfz : ∀ j, W.frozen? ⟨g, j, none⟩ = false := fun j => hb.frozen j
    rcases Nat.lt_or_ge a l.length with hlt | hge
    · rcases Nat.lt_or_ge l.length c with hroom | hfull
      · -- in place
        refine (Tryd.slices_Insert_int_shift g 0 l.length c a vb 0 1 1 (cellsR l.length fun j => l.getD j 0) (cellsR 1 fun _ => id) W hlt (by omega) (by omega) h2 (fun e => hgv e.symm) (cellsR_len2 _ _) (cellsR_len2 _ _) hcs (fun j hj => hall j (by omega)) (fun j hj => by rw [Nat.zero_add]; exact hfz j) hvs cellsR_mem cellsR_mem
          3 3 1 c (by unfold World.shape?; rw [hvb]; rfl) (by obtain ⟨C, hC, hCs, _⟩ := hb; unfold World.shape?; rw [hC]; simp [hCs]) (by omega) (by simp [World.frozen?, hvb]) (by simp [World.frozen?, hvb])).mono ?_
        rintro e w' ⟨rfl, rfl⟩
        rw [cellsR_drop]
        have b1 := Blk.setR2 (w := W.drew) (C' := fun i => if 0 + (a + 1) ≤ i ∧ i < 0 + (a + 1) + (l.length - a) then l.getD (a + (i - (0 + (a + 1)))) 0 else V i) (Blk.drew hb) (0 + (a + 1)) (l.length - a) (fun j => l.getD (a + j) 0) (fun i _ => rfl)
        have b2 := Blk.setR2 (C' := fun i => if 0 + a ≤ i ∧ i < 0 + a + 1 then id else if 0 + (a + 1) ≤ i ∧ i < 0 + (a + 1) + (l.length - a) then l.getD (a + (i - (0 + (a + 1)))) 0 else V i) b1 (0 + a) 1 (fun _ => id) (fun i _ => rfl)
        refine ⟨c, g, by unfold ilv; rw [hlen], ⟨_, b2, by omega, h2, fun j hj => ?_⟩, .inl ⟨rfl, Fr.setCellsL (F := One g) (.inl rfl) _ _ _ (Fr.setCellsL (F := One g) (.inl rfl) _ _ _ (Fr.refl _ _).drew)⟩⟩
        rw [hlen] at hj
        rw [hget j]
        by_cases c1 : j < a
        · rw [if_neg (by omega), if_neg (by omega), if_pos c1, h3 j (by omega)]
        · by_cases c2 : j = a
          · rw [if_pos (by omega), if_neg c1, if_pos c2]
          · rw [if_neg (by omega), if_pos (by omega), if_neg c1, if_neg c2, show a + (j - (0 + (a + 1))) = j - 1 by omega]
      · -- a new row
        refine (Tryd.slices_Insert_int_grow g 0 l.length c a vb 0 1 1 (cellsR l.length fun j => l.getD j 0) (cellsR 1 fun _ => id) W hlt (by omega) h1 (by omega) (by omega) (cellsR_len2 _ _) (cellsR_len2 _ _) hcs hvs cellsR_mem cellsR_mem).mono ?_
        rintro e w' ⟨rfl, rfl⟩
        obtain ⟨k1, k2⟩ := hG1 (l.length + 1) c (by omega)
        generalize grownCap W (l.length + 1) c 3 = G at k1 k2 ⊢
        rw [cellsR_drop, cellsR_take _ _ _ (by omega)]
        have b0 : Blk (W.alloc (.cells ((cellsR a fun j => l.getD j 0).toArray ++ Builtin.zeroCells (Value.int .i64 0).cells (l.length + 1 - a) ++ Builtin.zeroCells (Value.int .i64 0).cells (G - (l.length + 1))) 3)) W.heap.size G 3 (fun j => .int .i64 (if j < a then l.getD j 0 else 0)) := by
          have := Blk.new W ((cellsR a fun j => l.getD j 0).toArray ++ Builtin.zeroCells (Value.int .i64 0).cells (l.length + 1 - a) ++ Builtin.zeroCells (Value.int .i64 0).cells (G - (l.length + 1))) 3 (fun j => .int .i64 (if j < a then l.getD j 0 else 0)) (fun i hi => by
            rw [Array.getElem?_append]
            by_cases c1 : i < l.length + 1
            · rw [if_pos (by simp [cellsR, zc_size]; omega), Array.getElem?_append]
              by_cases c2 : i < a
              · rw [if_pos (by simpa [cellsR] using c2), if_pos c2]
                simp [cellsR, c2]
              · rw [if_neg (by simpa [cellsR] using c2), if_neg c2, zc_get _ _ (by simp [cellsR]; omega)]
            · rw [if_neg (by simp [cellsR, zc_size]; omega), if_neg (by omega), zc_get _ _ (by simp [cellsR, zc_size] at hi ⊢; omega)])
          have e : ((cellsR a fun j => l.getD j 0).toArray ++ Builtin.zeroCells (Value.int .i64 0).cells (l.length + 1 - a) ++ Builtin.zeroCells (Value.int .i64 0).cells (G - (l.length + 1))).size = G := by simp [cellsR, zc_size]; omega
          rw [e] at this
          exact this
        have b1 := Blk.setR2 (C' := fun i => if a ≤ i ∧ i < a + 1 then id else if i < a then l.getD i 0 else 0) (Blk.drew b0) a 1 (fun _ => id) (fun i _ => rfl)
        have b2 := Blk.setR2 (C' := fun i => if a + 1 ≤ i ∧ i < a + 1 + (l.length - a) then l.getD (a + (i - (a + 1))) 0 else if a ≤ i ∧ i < a + 1 then id else if i < a then l.getD i 0 else 0) (Blk.drew b1) (a + 1) (l.length - a) (fun j => l.getD (a + j) 0) (fun i _ => rfl)
        refine ⟨G, W.heap.size, by unfold ilv; rw [hlen], ⟨_, b2, by omega, k2, fun j hj => ?_⟩, .inr ⟨Nat.le_refl _, Fr.setCellsL (.inr (Nat.le_refl _)) _ _ _ (Fr.drew (Fr.setCellsL (.inr (Nat.le_refl _)) _ _ _ (((Fr.refl No W).alloc _).drew)))⟩⟩
        rw [hlen] at hj
        rw [hget j]
        by_cases c1 : j < a
        · rw [if_neg (by omega), if_neg (by omega), if_pos c1, if_pos c1]
        · by_cases c2 : j = a
          · rw [if_neg (by omega), if_pos (by omega), if_neg c1, if_pos c2]
          · rw [if_pos (by omega), if_neg c1, if_neg c2, show a + (j - (a + 1)) = j - 1 by omega]
    · obtain rfl : a = l.length := by omega
      rcases Nat.lt_or_ge l.length c with hroom | hfull
      · refine (Tryd.slices_Insert_int_end_room g 0 l.length c vb 0 1 1 (cellsR 1 fun _ => id) W (by omega) (by omega) h2 (cellsR_len2 _ _) (fun j hj => by rw [Nat.zero_add, hb.cell (by omega)]; rfl) (fun j hj => hfz _) hvs cellsR_mem).mono ?_
        rintro e w' ⟨rfl, rfl⟩
        have b1 := Blk.setR2 (C' := fun i => if 0 + l.length ≤ i ∧ i < 0 + l.length + 1 then id else V i) hb (0 + l.length) 1 (fun _ => id) (fun i _ => rfl)
        refine ⟨c, g, by unfold ilv; rw [hlen], ⟨_, b1, by omega, h2, fun j hj => ?_⟩, .inl ⟨rfl, Fr.setCellsL (F := One g) (.inl rfl) _ _ _ (Fr.refl _ _)⟩⟩
        rw [hlen] at hj
        rw [hget j]
        by_cases c1 : j < l.length
        · rw [if_neg (by omega), if_pos c1, h3 j c1]
        · rw [if_pos (by omega), if_neg c1, if_pos (by omega)]
      · refine (Tryd.slices_Insert_int_end_grow (some ⟨g, 0, none⟩) l.length c vb 0 1 1 (cellsR l.length fun j => l.getD j 0) (cellsR 1 fun _ => id) W (by omega) h1 (by omega) (by omega) (cellsR_len2 _ _) (cellsR_len2 _ _) (fun h => by cases h) (fun q hq j v hv => by cases hq; rw [Addr.add_mid]; exact hcs j v hv) hvs cellsR_mem).mono ?_
        rintro e w' ⟨rfl, rfl⟩
        obtain ⟨k1, k2⟩ := hG1 (l.length + 1) c (by omega)
        generalize grownCap W (l.length + 1) c 3 = G at k1 k2 ⊢
        have b0 : Blk (W.drew.alloc (.cells (((cellsR l.length fun j => l.getD j 0) ++ cellsR 1 fun _ => id).toArray ++ Builtin.zeroCells (Value.int .i64 0).cells (G - (l.length + 1))) 3)) W.heap.size G 3 (fun j => .int .i64 (if j < l.length then l.getD j 0 else if j = l.length then id else 0)) := by
          have := Blk.new W.drew (((cellsR l.length fun j => l.getD j 0) ++ cellsR 1 fun _ => id).toArray ++ Builtin.zeroCells (Value.int .i64 0).cells (G - (l.length + 1))) 3 (fun j => .int .i64 (if j < l.length then l.getD j 0 else if j = l.length then id else 0)) (fun i hi => by
            rw [Array.getElem?_append]
            by_cases c1 : i < l.length + 1
            · rw [if_pos (by simp [cellsR]; omega), List.getElem?_toArray, List.getElem?_append]
              by_cases c2 : i < l.length
              · rw [if_pos (by simpa [cellsR] using c2), if_pos c2]
                simp [cellsR, c2]
              · rw [if_neg (by simpa [cellsR] using c2), if_neg c2, if_pos (by omega), show i - (cellsR l.length fun j => l.getD j 0).length = 0 by simp [cellsR]; omega]
                rfl
            · rw [if_neg (by simp [cellsR]; omega), if_neg (by omega), if_neg (by omega), zc_get _ _ (by simp [cellsR, zc_size] at hi ⊢; omega)])
          have e : (((cellsR l.length fun j => l.getD j 0) ++ cellsR 1 fun _ => id).toArray ++ Builtin.zeroCells (Value.int .i64 0).cells (G - (l.length + 1))).size = G := by simp [cellsR, zc_size]; omega
          rw [e] at this
          exact this
        refine ⟨G, W.heap.size, by unfold ilv; rw [hlen], ⟨_, b0, by omega, k2, fun j hj => ?_⟩, .inr ⟨Nat.le_refl _, ((Fr.refl No W).drew.alloc _)⟩⟩
        rw [hlen] at hj
        rw [hget j]
        by_cases c1 : j < l.length
        · rw [if_pos c1, if_pos c1]
        · rw [if_neg c1, if_neg c1, if_pos (by omega), if_pos (by omega)]

def pos (l : List Int) (id : Int) : Nat := l.countP (· < id)
theorem pos_le (l : List Int) (id : Int) : pos l id ≤ l.length := List.countP_le_length
def delA (l : List Int) (a : Nat) : List Int := l.take a ++ l.drop (a + 1)
theorem delA_len (l : List Int) (a : Nat) (ha : a < l.length) : (delA l a).length = l.length - 1 := by
  unfold delA; simp; omega
theorem delA_getD (l : List Int) (a : Nat) (ha : a < l.length) (j : Nat) : (delA l a).getD j 0 = if j < a then l.getD j 0 else l.getD (j + 1) 0 := by
  unfold delA
  have hl : (l.take a).length = a := by simp; omega
  simp only [List.getD]
  by_cases h1 : j < a
  · rw [if_pos h1, List.getElem?_append_left (by omega), List.getElem?_take_of_lt h1]
  · rw [if_neg h1, List.getElem?_append_right (by omega), hl, List.getElem?_drop, show a + 1 + (j - a) = j + 1 by omega]
theorem map_cellsR (l : List Int) : l.map (Value.int .i64) = cellsR l.length (fun j => l.getD j 0) := by
  apply List.ext_getElem?
  intro j
  by_cases h : j < l.length
  · rw [List.getElem?_map, List.getElem?_eq_getElem h, cellsR, List.getElem?_map, List.getElem?_range h]
    simp [List.getD, h]
  · rw [List.getElem?_eq_none (by simpa using h), List.getElem?_eq_none (by simpa [cellsR] using h)]

theorem bs_calls (g : Option Nat) (l : List Int) (c : Nat) (id : Int) (w : World) (h : IL w l c g) (hl : l.length ≤ 64) (hs : l.Pairwise (· ≤ ·)) :
    Calls Tryd.prog 59 #[ilv l c g, .int .i64 id] w fun e w' => ∃ r : Bool, e = .returned (.tuple #[.int .i64 (pos l id : Nat), .bool r]) ∧ ∃ q, w' = w.drewN q := by
  cases g with
  | none =>
    obtain ⟨rfl, rfl⟩ := h
    refine (Tryd.slices_BinarySearch_int_empty none 0 id w).mono ?_
    rintro e w' ⟨rfl, rfl⟩
    exact ⟨false, rfl, 0, rfl⟩
  | some g =>
    obtain ⟨V, hb, h1, h2, h3⟩ := h
    refine (Tryd.slices_BinarySearch_int g 0 l.length c l id w (Nat.le_refl _) (by omega) (fun j hj => by rw [Nat.zero_add, hb.cell (by omega), h3 j hj]) (by rw [List.take_length]; exact hs)).mono ?_
    rintro e w' ⟨rfl, q, rfl⟩
    rw [List.take_length]
    exact ⟨_, rfl, q, rfl⟩

set_option maxRecDepth 100000 in
set_option maxHeartbeats 1000000 in
theorem with_list_calls (g : Option Nat) (l : List Int) (c : Nat) (id : Int) (w : World) (h : IL w l c g) (hl : l.length ≤ 64) (hs : l.Pairwise (· ≤ ·)) :
    Calls Tryd.prog 33 #[ilv l c g, .int .i64 id] w fun e w' => ∃ c' g', e = .returned (ilv (insA l (pos l id) id) c' (some g')) ∧ ILat w' g' (insA l (pos l id) id) c' ∧ ((g = some g' ∧ Fr (One g') w w') ∨ (w.heap.size ≤ g' ∧ Fr No w w')) := by
  have H := hid h
  have HS := hid hs
  have hp := pos_le l id
  have hin : ∀ q, Calls Tryd.prog 60 #[ilv l c g, .int .i64 (pos l id : Nat), .slice (some ⟨w.heap.size, 0, none⟩) 1 1] ((w.drewN q).alloc (.cells #[.int .i64 id] 3)) fun e w' => ∃ c' g', e = .returned (ilv (insA l (pos l id) id) c' (some g')) ∧ ILat w' g' (insA l (pos l id) id) c' ∧ ((g = some g' ∧ Fr (One g') w w') ∨ (w.heap.size ≤ g' ∧ Fr No w w')) := fun q => by
    have f1 : Fr No w ((w.drewN q).alloc (.cells #[.int .i64 id] 3)) := ((Fr.refl No w).drewN q).alloc _
    refine (ins_calls g l c (pos l id) id _ (H.out.fr f1 (fun _ _ h => h)) w.heap.size (heap_new (w.drewN q) _) (fun k hk e => by subst hk; have := ILat.lt (show ILat w k l c from H.out); omega) hp hl).mono ?_
    rintro e w' ⟨c', g', rfl, h1, h2⟩
    refine ⟨c', g', rfl, h1, ?_⟩
    rcases h2 with ⟨h2, h3⟩ | ⟨h2, h3⟩
    · exact .inl ⟨h2, f1.no.trans h3⟩
    · exact .inr ⟨by simp at h2; omega, f1.trans h3⟩
  obtain ⟨lv, hlv⟩ : ∃ lv, ilv l c g = lv := ⟨_, rfl⟩
  have hbs := bs_calls g l c id w H.out hl hs
  rw [hlv] at hin hbs ⊢
  obtain ⟨p, hpp⟩ : ∃ p, pos l id = p := ⟨_, rfl⟩
  rw [hpp] at hin hbs ⊢
  have HIN := hid hin
  have HBS := hid hbs
  clear hin hbs h hs hlv hpp hp
  go_enter Tryd.func33, Tryd.ntmps33
  go_wp2_with fail
  refine HBS.out.mono ?_
  rintro e w1 ⟨r, rfl, q, rfl⟩
  go_wp2_with fail
  refine (HIN.out q).mono ?_
  rintro e w2 ⟨c', g', rfl, h1, h2⟩
  go_wp2
  go_ret
  exact ⟨c', g', rfl, h1, h2⟩

end Go.Proofs.YtpkocidcfnlbiaaDoor
