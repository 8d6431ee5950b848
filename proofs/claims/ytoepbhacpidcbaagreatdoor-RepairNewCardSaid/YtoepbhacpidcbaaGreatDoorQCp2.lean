/- Whether two indices are the same; walked. -/
import Derived.Deep.MidRow
import Derived.Test.YtoepbhacpidcbaaGreatDoorShelf
import Derived.Test.YtoepbhacpidcbaaGreatDoorQBase
import Derived.Test.YtoepbhacpidcbaaGreatDoorQIdx
import Derived.Test.YtoepbhacpidcbaaGreatDoorQPerm
import Derived.Test.YtoepbhacpidcbaaGreatDoorQIdxB
import Derived.Test.YtoepbhacpidcbaaGreatDoorQRef
import Derived.Test.YtoepbhacpidcbaaGreatDoorQUnref
import Derived.Test.YtoepbhacpidcbaaGreatDoorQItr
import Derived.Test.YtoepbhacpidcbaaGreatDoorQUnE
import Derived.Test.YtoepbhacpidcbaaGreatDoorQDst
import Derived.Test.YtoepbhacpidcbaaGreatDoorQLnk
import Derived.Test.YtoepbhacpidcbaaGreatDoorQLks
import Derived.Test.YtoepbhacpidcbaaGreatDoorQBig

set_option linter.unusedVariables false
set_option linter.unusedSimpArgs false
namespace Go.Proofs.YtoepbhacpidcbaaGreatDoor
open Go.RowKit Go.Deep

set_option maxRecDepth 100000 in
set_option maxHeartbeats 2000000 in
theorem equal_calls {w : World} {b1 b2 n c1 c2 : Nat} {f : Nat → Nat} (h1 : Nums w b1 n f) (h2 : Nums w b2 n f) (hn : n ≤ 1000) :
    Calls Tryz.prog 97 #[.slice (some ⟨b1, 0, none⟩) n c1, .slice (some ⟨b2, 0, none⟩) n c2] w fun e w' => e = .returned (.bool true) ∧ Fr No w w' := by
  have H1 := hid h1
  have H2 := hid h2
  clear h1 h2
  go_enter Tryz.func97, Tryz.ntmps97
  go_wp2
  go_loopg [13] n (fun g p wr => ∃ j : Nat, p = .int .i64 j ∧ j ≤ n ∧ g = n - j ∧ Fr No w wr)
  case atStart => exact ⟨0, rfl, Nat.zero_le _, rfl, Fr.refl _ _⟩
  case round =>
    obtain ⟨j, rfl, hj, hg, hf⟩ := hrel
    have HG := hid hg
    have HF := hid hf
    clear hg hf
    by_cases hlt : j < n
    · have hlt2 : (j : Int) < n := by omega
      have q1 := HF.out.cell_some (H1.out j hlt) (fun h => h)
      have q2 := HF.out.cell_some (H2.out j hlt) (fun h => h)
      go_wp2_with fail
      go_quiet (fail)
      go_wp2
      go_roundg (n - (j + 1))
      case measure => have := HG.out; omega
      case rel => exact ⟨j + 1, by go_num, hlt, rfl, HF.out.drewN _⟩
    · have e : j = n := by omega
      subst e
      go_wp2
      go_ret
      exact ⟨rfl, HF.out⟩

theorem quiet_load {P : Program} {C : World → Prop} {o : Oper} {a : Act} {K : Act → Prop} (ty : TypeId) (x : Operand) (ho : o.op = .load ty x) (p v : Value) (hx : a.eval x = p) (hl : ∀ w, C w → (Instr.loadAt ty p).run P w = .ok v w) (hk : K (a.put o.dst v)) : o.quiet P a C K :=
  ⟨v, fun w hw => by
    have h := hl w hw
    unfold Oper.quietAt execOp
    simp only [ho, hx, Sem.run_bind, h, Result.andThen_ok, Sem.run_pure]
    exact ⟨rfl, rfl⟩, hk⟩

theorem Ix.K_wf {x : Ix} (h : x.Ok) : Wf x.K := fun i => by
  unfold Ix.K
  split
  · have hb : ∀ (e : En) c, e.Ok → -9223372036854775808 ≤ e.kf c ∧ e.kf c ≤ 9223372036854775807 := fun e c ho => by
      obtain ⟨h1, h2, h3, h4, h5, h6⟩ := ho
      unfold En.kf
      split
      · omega
      · split <;> omega
    split <;> exact hb _ _ (h.ent _ _)
  · omega

theorem IxMem.range {w : World} {L : IxLoc} {x : Ix} (h : IxMem w L x) : w.rangeAt L.b 2 (cellsR 3456 x.K) := fun j v hv => by
  rcases Nat.lt_or_ge j 3456 with hj | hj
  · simp only [cellsR, List.getElem?_map, List.getElem?_range hj, Option.map_some, Option.some.injEq] at hv
    subst hv
    rw [h.blk.cell (by omega), Ix.V, if_neg (by omega), if_neg (by omega), show 2 + j - 2 = j by omega]
  · rw [List.getElem?_eq_none (by simpa [cellsR] using hj)] at hv; cases hv

set_option maxRecDepth 100000 in
set_option maxHeartbeats 1000000 in
theorem isame_calls {w : World} {L M : IxLoc} {x y : Ix} (h1 : IxMem w L x) (h2 : IxMem w M y) (hn : x.n = y.n) (hr : x.rk = y.rk) :
    Calls Tryz.prog 45 #[.pointer (some ⟨L.b, 0, none⟩), .pointer (some ⟨M.b, 0, none⟩)] w fun e w' => ∃ r : Bool, e = .returned (.bool r) ∧ (r = true ↔ ∀ i, i < 3456 → x.K i = y.K i) ∧ Fr No w w' := by
  obtain ⟨r, hrun, hiff⟩ := run_equal_row (P := Tryz.prog) w (d := 9995) (m := 5) rowAll (by kernel_rfl) (by rfl) (by kernel_rfl) (Ix.K_wf h1.ok) (Ix.K_wf h2.ok)
  have hw : ∀ w' : World, (binOp .eql 180 (.agg (cellsR 3456 x.K).toArray) (.agg (cellsR 3456 y.K).toArray)).run Tryz.prog w' = .ok (.bool r) w' := fun w' => by
    obtain ⟨r', hrun', hiff'⟩ := run_equal_row (P := Tryz.prog) w' (d := 9995) (m := 5) rowAll (by kernel_rfl) (by rfl) (by kernel_rfl) (Ix.K_wf h1.ok) (Ix.K_wf h2.ok)
    have e : r' = r := by rw [Bool.eq_iff_iff, hiff', hiff]
    rw [e] at hrun'
    have h3 : (Op.equal 180 (.agg (cellsR 3456 x.K).toArray) (.agg (cellsR 3456 y.K).toArray)).run Tryz.prog w' = .ok r w' := hrun'
    simp [binOp, Sem.run_bind, h3]
  have hd : Tryz.prog.underlying 180 = some (.array 24 179) := Tryz.underlying180
  have hi : (Tryz.prog.info? 180).map (·.size) = some 3456 := by kernel_rfl
  have hl1 : ∀ n : Fam w, (Instr.loadAt 180 (.pointer (some ⟨L.b, 2, none⟩))).run Tryz.prog n.v = .ok (.agg (cellsR 3456 x.K).toArray) n.v := fun n => run_loadAt_mid n.v L.b 2 180 (cellsR 3456 x.K) _ (h1.no n.h).range hd rfl (by rw [hi]; simp [cellsR])
  have hl2 : ∀ n : Fam w, (Instr.loadAt 180 (.pointer (some ⟨M.b, 2, none⟩))).run Tryz.prog n.v = .ok (.agg (cellsR 3456 y.K).toArray) n.v := fun n => run_loadAt_mid n.v M.b 2 180 (cellsR 3456 y.K) _ (h2.no n.h).range hd rfl (by rw [hi]; simp [cellsR])
  have kk1 : ∀ n : Fam w, n.v.cell? ⟨L.b, 0, none⟩ = some (.slice (some ⟨L.br, 0, none⟩) x.n L.cr) := Fam.cell h1.c0
  have kk2 : ∀ n : Fam w, n.v.cell? ⟨M.b, 0, none⟩ = some (.slice (some ⟨M.br, 0, none⟩) x.n M.cr) := Fam.cell (by rw [hn]; exact h2.c0)
  have hn2 := h1.ok.n2
  have heq : ∀ n : Fam w, Calls Tryz.prog 97 #[.slice (some ⟨L.br, 0, none⟩) x.n L.cr, .slice (some ⟨M.br, 0, none⟩) x.n M.cr] n.v fun e w' => e = .returned (.bool true) ∧ Fr No n.v w' := fun n =>
    equal_calls (h1.no n.h).rk (by have := (h2.no n.h).rk; rw [← hr, ← hn] at this; exact this) (by omega)
  have heg : Tryz.prog.eqGuardType Tryz.prog.depth 180 = false := by kernel_rfl
  have HIFF := hid hiff
  obtain ⟨X, hX⟩ : ∃ X, (cellsR 3456 x.K).toArray = X := ⟨_, rfl⟩
  obtain ⟨Y, hY⟩ : ∃ Y, (cellsR 3456 y.K).toArray = Y := ⟨_, rfl⟩
  rw [hX] at hw hl1
  rw [hY] at hw hl2
  clear hX hY hrun hiff h1 h2 hn hr hd hi
  go_enter Tryz.func45, Tryz.ntmps45
  go_wp2_with fail
  refine wp_region_fam (by kernel_rfl) (by kernel_rfl) ?_
  iterate 13 (go_big_quiet_step (exact Calls.fam (heq _)))
  go_big_quiet_want
  refine quiet_load 180 (.tmp 17) rfl (.pointer (some ⟨L.b, 2, none⟩)) (.agg X) rfl (by rintro w' ⟨n, rfl⟩; exact hl1 n) ?_
  simp only [Act.put, List.setIfInBounds_toArray, List.set_cons_zero, List.set_cons_succ]
  go_big_quiet_on
  iterate 3 (go_big_quiet_step (exact Calls.fam (heq _)))
  go_big_quiet_want
  refine quiet_load 180 (.tmp 21) rfl (.pointer (some ⟨M.b, 2, none⟩)) (.agg Y) rfl (by rintro w' ⟨n, rfl⟩; exact hl2 n) ?_
  simp only [Act.put, List.setIfInBounds_toArray, List.set_cons_zero, List.set_cons_succ]
  go_big_quiet_on
  clear hl1 hl2
  repeat (go_big_quiet_step (exact Calls.fam (heq _)))
  refine wpQuiet_nil ?_
  rintro w7 ⟨⟨w7, hf7⟩, rfl⟩
  go_wp2
  go_ret
  exact ⟨r, rfl, HIFF.out, hf7⟩

end Go.Proofs.YtoepbhacpidcbaaGreatDoor

/- A copy of an index; walked. -/
set_option linter.unusedVariables false
set_option linter.unusedSimpArgs false
namespace Go.Proofs.YtoepbhacpidcbaaGreatDoor
open Go.RowKit Go.Deep

theorem Blk.setCells {b n : Nat} {T : TypeId} : ∀ (vs : List Value) (o : Nat) (w : World) (V : Nat → Value), Blk w b n T V →
    Blk (w.setCells b o vs) b n T (fun i => if o ≤ i ∧ i < o + vs.length then vs.getD (i - o) undef else V i)
  | [], o, w, V, h => h.congr fun i _ => by simp; intro h1 h2; omega
  | v :: r, o, w, V, h => by
    rw [World.setCells]
    refine (Blk.setCells r (o + 1) _ _ (h.setCell o v)).congr fun i _ => ?_
    simp only [upd, List.length_cons]
    by_cases e : i = o
    · subst e
      rw [if_neg (by omega), if_pos rfl, if_pos (by omega)]
      simp
    · rw [if_neg e]
      by_cases e2 : o + 1 ≤ i ∧ i < o + 1 + r.length
      · rw [if_pos e2, if_pos (by omega), show i - o = (i - (o + 1)) + 1 by omega]
        simp
      · rw [if_neg e2, if_neg (by omega)]

theorem Fr.setCellsL {F : Nat → Prop} {a : World} {b : Nat} (hb : F b ∨ a.heap.size ≤ b) : ∀ (vs : List Value) (o : Nat) (w : World), Fr F a w → Fr F a (w.setCells b o vs)
  | [], _, _, h => h
  | v :: r, o, w, h => by rw [World.setCells]; exact Fr.setCellsL hb r (o + 1) _ (h.setCell (p := ⟨b, o, none⟩) hb v)

def cellsV (x : Ix) (L : IxLoc) : List Value := (List.range 3458).map (x.V L)
theorem cellsV_len (x : Ix) (L : IxLoc) : (cellsV x L).length = 3458 := by simp [cellsV]
theorem IxMem.rangeV {w : World} {L : IxLoc} {x : Ix} (h : IxMem w L x) : w.rangeAt L.b 0 (cellsV x L) := fun j v hv => by
  rcases Nat.lt_or_ge j 3458 with hj | hj
  · simp only [cellsV, List.getElem?_map, List.getElem?_range hj, Option.map_some, Option.some.injEq] at hv
    subst hv
    rw [Nat.zero_add, h.blk.cell hj]
  · rw [List.getElem?_eq_none (by simpa [cellsV] using hj)] at hv; cases hv

theorem cellsV_one (x : Ix) (L : IxLoc) : (cellsV x L).toArray.all (·.oneCell') = true := all_oneCell_toArray fun v hv => by
  simp only [cellsV, List.mem_map] at hv
  obtain ⟨i, _, rfl⟩ := hv
  unfold Ix.V
  split
  · rfl
  · split <;> rfl

theorem Blk.cellsV {w : World} {b : Nat} {T : TypeId} {V : Nat → Value} (h : Blk w b 3458 T V) (x : Ix) (L : IxLoc) : Blk (w.setCells b 0 (cellsV x L)) b 3458 T (x.V L) :=
  (Blk.setCells _ 0 w V h).congr fun i hi => by
    rw [cellsV_len, if_pos (by omega)]
    simp [Go.Proofs.YtoepbhacpidcbaaGreatDoor.cellsV, List.getD, hi]

theorem Blk.there {w : World} {b n : Nat} {T : TypeId} {V : Nat → Value} (h : Blk w b n T V) : w.there b 0 n := fun j hj =>
  ⟨by rw [Nat.zero_add, h.cell hj]; rfl, h.frozen _⟩

theorem zeroBlk (w : World) : ∃ V, Blk (w.alloc (.cells Tryz.zeroCells182 182)) w.heap.size 3458 182 V :=
  ⟨fun i => Tryz.zeroCells182.getD i undef, _, heap_new _ _, by simp [Tryz.zeroCells182_size], fun i hi => by
    simp [hi, Tryz.zeroCells182_size]⟩

end Go.Proofs.YtoepbhacpidcbaaGreatDoor

/- A list of numbers in a row of its own: slices.Insert by its four roads; graph.with, graph.without; walked. -/
set_option linter.unusedVariables false
set_option linter.unusedSimpArgs false
namespace Go.Proofs.YtoepbhacpidcbaaGreatDoor
open Go.RowKit Go.Deep

/-- A list lies in a row of capacity c. -/
def ILat (w : World) (g : Nat) (l : List Int) (c : Nat) : Prop :=
  ∃ V : Nat → Int, Blk w g c 3 (fun i => .int .i64 (V i)) ∧ l.length ≤ c ∧ c ≤ 9223372036854775807 ∧ ∀ j, j < l.length → V j = l.getD j 0
def IL (w : World) (l : List Int) (c : Nat) : Option Nat → Prop
  | none => l = [] ∧ c = 0
  | some g => ILat w g l c
def ilv (l : List Int) (c : Nat) : Option Nat → Value
  | none => .slice none 0 0
  | some g => .slice (some ⟨g, 0, none⟩) l.length c
theorem ILat.fr {w w' : World} {g c : Nat} {l : List Int} (h : ILat w g l c) {F : Nat → Prop} (hf : Fr F w w') (hF : ¬ F g) : ILat w' g l c := by
  obtain ⟨V, h1, h2, h3, h4⟩ := h
  exact ⟨V, h1.fr hf hF, h2, h3, h4⟩
theorem IL.fr {w w' : World} {g : Option Nat} {c : Nat} {l : List Int} (h : IL w l c g) {F : Nat → Prop} (hf : Fr F w w') (hF : ∀ k, g = some k → ¬ F k) : IL w' l c g := by
  cases g with
  | none => exact h
  | some g => exact ILat.fr h hf (hF g rfl)
theorem ILat.lt {w : World} {g c : Nat} {l : List Int} (h : ILat w g l c) : g < w.heap.size := by
  obtain ⟨V, h1, _⟩ := h
  exact h1.lt

def insA (l : List Int) (a : Nat) (id : Int) : List Int := l.take a ++ id :: l.drop a
theorem insA_len (l : List Int) (a : Nat) (id : Int) (ha : a ≤ l.length) : (insA l a id).length = l.length + 1 := by
  unfold insA; simp; omega
theorem insA_getD (l : List Int) (a : Nat) (id : Int) (ha : a ≤ l.length) (j : Nat) : (insA l a id).getD j 0 = if j < a then l.getD j 0 else if j = a then id else l.getD (j - 1) 0 := by
  unfold insA
  have hl : (l.take a).length = a := by simp; omega
  simp only [List.getD]
  by_cases h1 : j < a
  · rw [if_pos h1, List.getElem?_append_left (by omega), List.getElem?_take_of_lt h1]
  · rw [if_neg h1, List.getElem?_append_right (by omega), hl]
    by_cases h2 : j = a
    · subst h2; simp
    · rw [if_neg h2]
      obtain ⟨k, rfl⟩ : ∃ k, j = a + 1 + k := ⟨j - (a + 1), by omega⟩
      rw [show a + 1 + k - a = k + 1 by omega, List.getElem?_cons_succ, List.getElem?_drop, show a + 1 + k - 1 = a + k by omega]

theorem cellsR_drop (n i : Nat) (f : Nat → Int) : (cellsR n f).drop i = cellsR (n - i) (fun j => f (i + j)) := by
  apply List.ext_getElem?
  intro j
  rw [List.getElem?_drop]
  by_cases h : j < n - i
  · rw [cellsR, List.getElem?_map, List.getElem?_range (by omega), cellsR, List.getElem?_map, List.getElem?_range h]; rfl
  · rw [List.getElem?_eq_none (by simp [cellsR]; omega), List.getElem?_eq_none (by simp [cellsR]; omega)]
theorem cellsR_take (n i : Nat) (f : Nat → Int) (h : i ≤ n) : (cellsR n f).take i = cellsR i f := by
  apply List.ext_getElem?
  intro j
  by_cases hj : j < i
  · rw [List.getElem?_take_of_lt hj, cellsR, List.getElem?_map, List.getElem?_range (by omega), cellsR, List.getElem?_map, List.getElem?_range hj]
  · rw [List.getElem?_eq_none (by simp [cellsR]; omega), List.getElem?_eq_none (by simp [cellsR]; omega)]
theorem cellsR_len2 (m : Nat) (C : Nat → Int) : (cellsR m C).length = m := by simp [cellsR]
theorem cellsR_mem {m : Nat} {f : Nat → Int} : ∀ v ∈ cellsR m f, v.oneCell' = true := fun v hv => by
  simp only [cellsR, List.mem_map] at hv
  obtain ⟨i, _, rfl⟩ := hv
  rfl
theorem cellsR_get {m : Nat} {f : Nat → Int} {j : Nat} {v : Value} (h : (cellsR m f)[j]? = some v) : j < m ∧ v = .int .i64 (f j) := by
  rcases Nat.lt_or_ge j m with hj | hj
  · rw [cellsR, List.getElem?_map, List.getElem?_range hj] at h
    simp at h
    exact ⟨hj, h.symm⟩
  · rw [List.getElem?_eq_none (by simpa [cellsR] using hj)] at h; cases h
theorem Blk.setR2 {w : World} {b n : Nat} {T : TypeId} {C C' : Nat → Int} (h : Blk w b n T (fun i => .int .i64 (C i))) (o m : Nat) (D : Nat → Int) (h1 : ∀ i, i < n → C' i = if o ≤ i ∧ i < o + m then D (i - o) else C i) :
    Blk (w.setCells b o (cellsR m D)) b n T (fun i => .int .i64 (C' i)) :=
  (Blk.setCells _ o w _ h).congr fun i hi => by
    rw [cellsR_len2, h1 i hi]
    by_cases hc : o ≤ i ∧ i < o + m
    · rw [if_pos hc, if_pos hc]
      have : i - o < m := by omega
      simp [cellsR, List.getD, this]
    · rw [if_neg hc, if_neg hc]
theorem zc_get (n i : Nat) (h : i < n) : (Builtin.zeroCells (Value.int .i64 0).cells n)[i]? = some (.int .i64 0) := by
  have : (Value.int .i64 0).cells = #[.int .i64 0] := rfl
  rw [this]
  simp [Builtin.zeroCells, h]
  rw [show i % 1 = 0 by omega]
  rfl
theorem zc_size (n : Nat) : (Builtin.zeroCells (Value.int .i64 0).cells n).size = n := by
  have : (Value.int .i64 0).cells = #[.int .i64 0] := rfl
  rw [this]
  simp [Builtin.zeroCells]

set_option maxRecDepth 100000 in
set_option maxHeartbeats 1000000 in
theorem ins_calls (g : Option Nat) (l : List Int) (c a : Nat) (id : Int) (W : World) (h : IL W l c g) (vb : Nat) (hvb : W.heap[vb]? = some (.cells #[.int .i64 id] 3)) (hne : ∀ k, g = some k → k ≠ vb) (ha : a ≤ l.length) (hl : l.length ≤ 64) :
    Calls Tryz.prog 176 #[ilv l c g, .int .i64 (a : Nat), .slice (some ⟨vb, 0, none⟩) 1 1] W fun e w' => ∃ c' g', e = .returned (ilv (insA l a id) c' (some g')) ∧ ILat w' g' (insA l a id) c' ∧ ((g = some g' ∧ Fr (One g') W w') ∨ (W.heap.size ≤ g' ∧ Fr No W w')) := by
  have hlen := insA_len l a id ha
  have hget := insA_getD l a id ha
  have hvs : ∀ j v, (cellsR 1 fun _ => id)[j]? = some v → W.cell? ⟨vb, 0 + j, none⟩ = some v := fun j v hv => by
    obtain ⟨hj, rfl⟩ := cellsR_get hv
    obtain rfl : j = 0 := by omega
    exact cell_of hvb 0
  have hG1 : ∀ need old, need ≤ 65 → need ≤ grownCap W need old 3 ∧ grownCap W need old 3 ≤ 9223372036854775807 := fun need old hn => by
    have h1 := grownCap_ge W need old 3
    have h2 := grownCap_le_maxLen W need old 3 (by unfold maxLen; omega)
    unfold maxLen at h2
    exact ⟨h1, by omega⟩
  cases g with
  | none =>
    obtain ⟨rfl, rfl⟩ := h
    obtain rfl : a = 0 := by simpa using ha
    refine (Tryz.slices_Insert_int_end_grow none 0 0 vb 0 1 1 [] (cellsR 1 fun _ => id) W (by omega) (by omega) (by omega) (by omega) rfl (cellsR_len2 _ _) (fun _ => rfl) (fun a h => by cases h) hvs cellsR_mem).mono ?_
    rintro e w' ⟨rfl, rfl⟩
    obtain ⟨k1, k2⟩ := hG1 (0 + 1) 0 (by omega)
    generalize grownCap W (0 + 1) 0 3 = G at k1 k2 ⊢
    refine ⟨G, W.heap.size, rfl, ⟨fun j => if j = 0 then id else 0, ?_, by rw [hlen]; simpa using k1, k2, ?_⟩, .inr ⟨Nat.le_refl _, ((Fr.refl No W).drew.alloc _)⟩⟩
    · have := Blk.new W.drew (([] ++ cellsR 1 fun _ => id).toArray ++ Builtin.zeroCells (Value.int .i64 0).cells (G - (0 + 1))) 3 (fun j => .int .i64 (if j = 0 then id else 0)) (fun i hi => by
        rw [Array.getElem?_append]
        by_cases h0 : i = 0
        · subst h0; rfl
        · rw [if_neg (by simp [cellsR]; omega), zc_get _ _ (by simp [cellsR, zc_size] at hi ⊢; omega), if_neg h0])
      have e : (([] ++ cellsR 1 fun _ => id).toArray ++ Builtin.zeroCells (Value.int .i64 0).cells (G - (0 + 1))).size = G := by simp [cellsR, zc_size]; omega
      rw [e] at this
      exact this
    · intro j hj
      rw [hlen] at hj
      obtain rfl : j = 0 := by simpa using hj
      rfl
  | some g =>
    obtain ⟨V, hb, h1, h2, h3⟩ := h
    have hgv : g ≠ vb := hne g rfl
    have hcs : ∀ j v, (cellsR l.length fun j => l.getD j 0)[j]? = some v → W.cell? ⟨g, 0 + j, none⟩ = some v := fun j v hv => by
      obtain ⟨hj, rfl⟩ := cellsR_get hv
      rw [Nat.zero_add, hb.cell (by omega), h3 j hj]
    have hall : ∀ j, j < c → (W.cell? ⟨g, 0 + j, none⟩).isSome = true := fun j hj => by rw [Nat.zero_add, hb.cell hj]; rfl
    have hfz : ∀ j, W.frozen? ⟨g, j, none⟩ = false := fun j => hb.frozen j
    rcases Nat.lt_or_ge a l.length with hlt | hge
    · rcases Nat.lt_or_ge l.length c with hroom | hfull
      · -- in place
        refine (Tryz.slices_Insert_int_shift g 0 l.length c a vb 0 1 1 (cellsR l.length fun j => l.getD j 0) (cellsR 1 fun _ => id) W hlt (by omega) (by omega) h2 (fun e => hgv e.symm) (cellsR_len2 _ _) (cellsR_len2 _ _) hcs (fun j hj => hall j (by omega)) (fun j hj => by rw [Nat.zero_add]; exact hfz j) hvs cellsR_mem cellsR_mem
          3 3 1 c (by unfold World.shape?; rw [hvb]; rfl) (by obtain ⟨C, hC, hCs, _⟩ := hb; unfold World.shape?; rw [hC]; simp [hCs]) (by omega) (by simp [World.frozen?, hvb]) (by simp [World.frozen?, hvb])).mono ?_
        rintro e w' ⟨rfl, rfl⟩
        rw [cellsR_drop]
        have b1 := Blk.setR2 (w := W.drew) (C' := fun i => if 0 + (a + 1) ≤ i ∧ i < 0 + (a + 1) + (l.length - a) then l.getD (a + (i - (0 + (a + 1)))) 0 else V i) (Blk.drew hb) (0 + (a + 1)) (l.length - a) (fun j => l.getD (a + j) 0) (fun i _ => rfl)
        have b2 := Blk.setR2 (C' := fun i => if 0 + a ≤ i ∧ i < 0 + a + 1 then id else if 0 + (a + 1) ≤ i ∧ i < 0 + (a + 1) + (l.length - a) then l.getD (a + (i - (0 + (a + 1)))) 0 else V i) b1 (0 + a) 1 (fun _ => id) (fun i _ => rfl)
        refine ⟨c, g, by unfold ilv; rw [hlen], ⟨_, b2, by omega, h2, fun j hj => ?_⟩, .inl ⟨rfl, Fr.setCellsL (F := One g) (.inl rfl) _ _ _ (Fr.setCellsL (F := One g) (.inl rfl) _ _ _ (Fr.refl _ _).drew)⟩⟩
        rw [hlen] at hj
        rw [hget j]
        by_cases c1 : j < a
        · rw [if_neg (by omega), if_neg (by omega), if_pos c1, h3 j (by omega)]
        · by_cases c2 : j = a
          · rw [if_pos (by omega), if_neg c1, if_pos c2]
          · rw [if_neg (by omega), if_pos (by omega), if_neg c1, if_neg c2, show a + (j - (0 + (a + 1))) = j - 1 by omega]
      · -- a new row
        refine (Tryz.slices_Insert_int_grow g 0 l.length c a vb 0 1 1 (cellsR l.length fun j => l.getD j 0) (cellsR 1 fun _ => id) W hlt (by omega) h1 (by omega) (by omega) (cellsR_len2 _ _) (cellsR_len2 _ _) hcs hvs cellsR_mem cellsR_mem).mono ?_
        rintro e w' ⟨rfl, rfl⟩
        obtain ⟨k1, k2⟩ := hG1 (l.length + 1) c (by omega)
        generalize grownCap W (l.length + 1) c 3 = G at k1 k2 ⊢
        rw [cellsR_drop, cellsR_take _ _ _ (by omega)]
        have b0 : Blk (W.alloc (.cells ((cellsR a fun j => l.getD j 0).toArray ++ Builtin.zeroCells (Value.int .i64 0).cells (l.length + 1 - a) ++ Builtin.zeroCells (Value.int .i64 0).cells (G - (l.length + 1))) 3)) W.heap.size G 3 (fun j => .int .i64 (if j < a then l.getD j 0 else 0)) := by
          have := Blk.new W ((cellsR a fun j => l.getD j 0).toArray ++ Builtin.zeroCells (Value.int .i64 0).cells (l.length + 1 - a) ++ Builtin.zeroCells (Value.int .i64 0).cells (G - (l.length + 1))) 3 (fun j => .int .i64 (if j < a then l.getD j 0 else 0)) (fun i hi => by
            rw [Array.getElem?_append]
            by_cases c1 : i < l.length + 1
            · rw [if_pos (by simp [cellsR, zc_size]; omega), Array.getElem?_append]
              by_cases c2 : i < a
              · rw [if_pos (by simpa [cellsR] using c2), if_pos c2]
                simp [cellsR, c2]
              · rw [if_neg (by simpa [cellsR] using c2), if_neg c2, zc_get _ _ (by simp [cellsR]; omega)]
            · rw [if_neg (by simp [cellsR, zc_size]; omega), if_neg (by omega), zc_get _ _ (by simp [cellsR, zc_size] at hi ⊢; omega)])
          have e : ((cellsR a fun j => l.getD j 0).toArray ++ Builtin.zeroCells (Value.int .i64 0).cells (l.length + 1 - a) ++ Builtin.zeroCells (Value.int .i64 0).cells (G - (l.length + 1))).size = G := by simp [cellsR, zc_size]; omega
          rw [e] at this
          exact this
        have b1 := Blk.setR2 (C' := fun i => if a ≤ i ∧ i < a + 1 then id else if i < a then l.getD i 0 else 0) (Blk.drew b0) a 1 (fun _ => id) (fun i _ => rfl)
        have b2 := Blk.setR2 (C' := fun i => if a + 1 ≤ i ∧ i < a + 1 + (l.length - a) then l.getD (a + (i - (a + 1))) 0 else if a ≤ i ∧ i < a + 1 then id else if i < a then l.getD i 0 else 0) (Blk.drew b1) (a + 1) (l.length - a) (fun j => l.getD (a + j) 0) (fun i _ => rfl)
        refine ⟨G, W.heap.size, by unfold ilv; rw [hlen], ⟨_, b2, by omega, k2, fun j hj => ?_⟩, .inr ⟨Nat.le_refl _, Fr.setCellsL (.inr (Nat.le_refl _)) _ _ _ (Fr.drew (Fr.setCellsL (.inr (Nat.le_refl _)) _ _ _ (((Fr.refl No W).alloc _).drew)))⟩⟩
        rw [hlen] at hj
        rw [hget j]
        by_cases c1 : j < a
        · rw [if_neg (by omega), if_neg (by omega), if_pos c1, if_pos c1]
        · by_cases c2 : j = a
          · rw [if_neg (by omega), if_pos (by omega), if_neg c1, if_pos c2]
          · rw [if_pos (by omega), if_neg c1, if_neg c2, show a + (j - (a + 1)) = j - 1 by omega]
    · obtain rfl : a = l.length := by omega
      rcases Nat.lt_or_ge l.length c with hroom | hfull
      · refine (Tryz.slices_Insert_int_end_room g 0 l.length c vb 0 1 1 (cellsR 1 fun _ => id) W (by omega) (by omega) h2 (cellsR_len2 _ _) (fun j hj => by rw [Nat.zero_add, hb.cell (by omega)]; rfl) (fun j hj => hfz _) hvs cellsR_mem).mono ?_
        rintro e w' ⟨rfl, rfl⟩
        have b1 := Blk.setR2 (C' := fun i => if 0 + l.length ≤ i ∧ i < 0 + l.length + 1 then id else V i) hb (0 + l.length) 1 (fun _ => id) (fun i _ => rfl)
        refine ⟨c, g, by unfold ilv; rw [hlen], ⟨_, b1, by omega, h2, fun j hj => ?_⟩, .inl ⟨rfl, Fr.setCellsL (F := One g) (.inl rfl) _ _ _ (Fr.refl _ _)⟩⟩
        rw [hlen] at hj
        rw [hget j]
        by_cases c1 : j < l.length
        · rw [if_neg (by omega), if_pos c1, h3 j c1]
        · rw [if_pos (by omega), if_neg c1, if_pos (by omega)]
      · refine (Tryz.slices_Insert_int_end_grow (some ⟨g, 0, none⟩) l.length c vb 0 1 1 (cellsR l.length fun j => l.getD j 0) (cellsR 1 fun _ => id) W (by omega) h1 (by omega) (by omega) (cellsR_len2 _ _) (cellsR_len2 _ _) (fun h => by cases h) (fun q hq j v hv => by cases hq; rw [Addr.add_mid]; exact hcs j v hv) hvs cellsR_mem).mono ?_
        rintro e w' ⟨rfl, rfl⟩
        obtain ⟨k1, k2⟩ := hG1 (l.length + 1) c (by omega)
        generalize grownCap W (l.length + 1) c 3 = G at k1 k2 ⊢
        have b0 : Blk (W.drew.alloc (.cells (((cellsR l.length fun j => l.getD j 0) ++ cellsR 1 fun _ => id).toArray ++ Builtin.zeroCells (Value.int .i64 0).cells (G - (l.length + 1))) 3)) W.heap.size G 3 (fun j => .int .i64 (if j < l.length then l.getD j 0 else if j = l.length then id else 0)) := by
          have := Blk.new W.drew (((cellsR l.length fun j => l.getD j 0) ++ cellsR 1 fun _ => id).toArray ++ Builtin.zeroCells (Value.int .i64 0).cells (G - (l.length + 1))) 3 (fun j => .int .i64 (if j < l.length then l.getD j 0 else if j = l.length then id else 0)) (fun i hi => by
            rw [Array.getElem?_append]
            by_cases c1 : i < l.length + 1
            · rw [if_pos (by simp [cellsR]; omega), List.getElem?_toArray, List.getElem?_append]
              by_cases c2 : i < l.length
              · rw [if_pos (by simpa [cellsR] using c2), if_pos c2]
                simp [cellsR, c2]
              · rw [if_neg (by simpa [cellsR] using c2), if_neg c2, if_pos (by omega), show i - (cellsR l.length fun j => l.getD j 0).length = 0 by simp [cellsR]; omega]
                rfl
            · rw [if_neg (by simp [cellsR]; omega), if_neg (by omega), if_neg (by omega), zc_get _ _ (by simp [cellsR, zc_size] at hi ⊢; omega)])
          have e : (((cellsR l.length fun j => l.getD j 0) ++ cellsR 1 fun _ => id).toArray ++ Builtin.zeroCells (Value.int .i64 0).cells (G - (l.length + 1))).size = G := by simp [cellsR, zc_size]; omega
          rw [e] at this
          exact this
        refine ⟨G, W.heap.size, by unfold ilv; rw [hlen], ⟨_, b0, by omega, k2, fun j hj => ?_⟩, .inr ⟨Nat.le_refl _, ((Fr.refl No W).drew.alloc _)⟩⟩
        rw [hlen] at hj
        rw [hget j]
        by_cases c1 : j < l.length
        · rw [if_pos c1, if_pos c1]
        · rw [if_neg c1, if_neg c1, if_pos (by omega), if_pos (by omega)]

def pos (l : List Int) (id : Int) : Nat := l.countP (· < id)
theorem pos_le (l : List Int) (id : Int) : pos l id ≤ l.length := List.countP_le_length
def delA (l : List Int) (a : Nat) : List Int := l.take a ++ l.drop (a + 1)
theorem delA_len (l : List Int) (a : Nat) (ha : a < l.length) : (delA l a).length = l.length - 1 := by
  unfold delA; simp; omega
theorem map_cellsR (l : List Int) : l.map (Value.int .i64) = cellsR l.length (fun j => l.getD j 0) := by
  apply List.ext_getElem?
  intro j
  by_cases h : j < l.length
  · rw [List.getElem?_map, List.getElem?_eq_getElem h, cellsR, List.getElem?_map, List.getElem?_range h]
    simp [List.getD, h]
  · rw [List.getElem?_eq_none (by simpa using h), List.getElem?_eq_none (by simpa [cellsR] using h)]

theorem bs_calls (g : Option Nat) (l : List Int) (c : Nat) (id : Int) (w : World) (h : IL w l c g) (hl : l.length ≤ 64) (hs : l.Pairwise (· ≤ ·)) :
    Calls Tryz.prog 175 #[ilv l c g, .int .i64 id] w fun e w' => ∃ r : Bool, e = .returned (.tuple #[.int .i64 (pos l id : Nat), .bool r]) ∧ ∃ q, w' = w.drewN q := by
  cases g with
  | none =>
    obtain ⟨rfl, rfl⟩ := h
    refine (Tryz.slices_BinarySearch_int_empty none 0 id w).mono ?_
    rintro e w' ⟨rfl, rfl⟩
    exact ⟨false, rfl, 0, rfl⟩
  | some g =>
    obtain ⟨V, hb, h1, h2, h3⟩ := h
    refine (Tryz.slices_BinarySearch_int g 0 l.length c l id w (Nat.le_refl _) (by omega) (fun j hj => by rw [Nat.zero_add, hb.cell (by omega), h3 j hj]) (by rw [List.take_length]; exact hs)).mono ?_
    rintro e w' ⟨rfl, q, rfl⟩
    rw [List.take_length]
    exact ⟨_, rfl, q, rfl⟩

theorem del_calls (g : Nat) (l : List Int) (c a : Nat) (w : World) (h : ILat w g l c) (ha : a < l.length) :
    Calls Tryz.prog 216 #[ilv l c (some g), .int .i64 (a : Nat), .int .i64 ((a + 1 : Nat) : Int)] w fun e w' => e = .returned (ilv (delA l a) c (some g)) ∧ ILat w' g (delA l a) c ∧ Fr (One g) w w' := by
  obtain ⟨V, hb, h1, h2, h3⟩ := h
  have hlen := delA_len l a ha
  refine (Tryz.slices_Delete_int_cells g 0 l.length c a (a + 1) l w (Nat.le_refl _) h1 h2 (by omega) (by omega) (fun j hj => by rw [Nat.zero_add, hb.cell (by omega), h3 j hj]) (fun j hj => hb.frozen _)).mono ?_
  rintro e w' ⟨rfl, q, rfl⟩
  rw [List.take_length, map_cellsR]
  obtain ⟨Z, hZ⟩ : ∃ Z, l.take a ++ l.drop (a + 1) ++ List.replicate (a + 1 - a) (0 : Int) = Z := ⟨_, rfl⟩
  have hZl : Z.length = l.length := by rw [← hZ]; simp; omega
  have hZg : ∀ j, j < l.length - 1 → Z.getD j 0 = (delA l a).getD j 0 := fun j hj => by
    rw [← hZ]
    unfold delA
    simp only [List.getD]
    rw [List.getElem?_append_left (by simp; omega)]
  rw [hZ]
  have b1 := Blk.setR2 (C' := fun i => if 0 ≤ i ∧ i < 0 + Z.length then Z.getD (i - 0) 0 else V i) (hb.drewN q) 0 Z.length (fun j => Z.getD j 0) (fun i _ => rfl)
  refine ⟨by unfold ilv; rw [hlen, show a + 1 - a = 1 by omega], ⟨_, b1, by omega, h2, fun j hj => ?_⟩, Fr.setCellsL (F := One g) (.inl rfl) _ _ _ ((Fr.refl _ _).drewN q)⟩
  rw [hlen] at hj
  rw [if_pos (by omega), Nat.sub_zero, hZg j hj]

set_option maxRecDepth 100000 in
set_option maxHeartbeats 1000000 in
theorem with_list_calls (g : Option Nat) (l : List Int) (c : Nat) (id : Int) (w : World) (h : IL w l c g) (hl : l.length ≤ 64) (hs : l.Pairwise (· ≤ ·)) :
    Calls Tryz.prog 115 #[ilv l c g, .int .i64 id] w fun e w' => ∃ c' g', e = .returned (ilv (insA l (pos l id) id) c' (some g')) ∧ ILat w' g' (insA l (pos l id) id) c' ∧ ((g = some g' ∧ Fr (One g') w w') ∨ (w.heap.size ≤ g' ∧ Fr No w w')) := by
  have H := hid h
  have HS := hid hs
  have hp := pos_le l id
  have hin : ∀ q, Calls Tryz.prog 176 #[ilv l c g, .int .i64 (pos l id : Nat), .slice (some ⟨w.heap.size, 0, none⟩) 1 1] ((w.drewN q).alloc (.cells #[.int .i64 id] 3)) fun e w' => ∃ c' g', e = .returned (ilv (insA l (pos l id) id) c' (some g')) ∧ ILat w' g' (insA l (pos l id) id) c' ∧ ((g = some g' ∧ Fr (One g') w w') ∨ (w.heap.size ≤ g' ∧ Fr No w w')) := fun q => by
    have f1 : Fr No w ((w.drewN q).alloc (.cells #[.int .i64 id] 3)) := ((Fr.refl No w).drewN q).alloc _
    refine (ins_calls g l c (pos l id) id _ (H.out.fr f1 (fun _ _ h => h)) w.heap.size (heap_new (w.drewN q) _) (fun k hk e => by subst hk; have := ILat.lt (show ILat w k l c from H.out); omega) hp hl).mono ?_
    rintro e w' ⟨c', g', rfl, h1, h2⟩
    refine ⟨c', g', rfl, h1, ?_⟩
    rcases h2 with ⟨h2, h3⟩ | ⟨h2, h3⟩
    · exact .inl ⟨h2, f1.no.trans h3⟩
    · exact .inr ⟨by simp at h2; omega, f1.trans h3⟩
  obtain ⟨lv, hlv⟩ : ∃ lv, ilv l c g = lv := ⟨_, rfl⟩
  have hbs := bs_calls g l c id w H.out hl hs
  rw [hlv] at hin hbs ⊢
  obtain ⟨p, hpp⟩ : ∃ p, pos l id = p := ⟨_, rfl⟩
  rw [hpp] at hin hbs ⊢
  have HIN := hid hin
  have HBS := hid hbs
  clear hin hbs h hs hlv hpp hp
  go_enter Tryz.func115, Tryz.ntmps115
  go_wp2_with fail
  refine HBS.out.mono ?_
  rintro e w1 ⟨r, rfl, q, rfl⟩
  go_wp2_with fail
  refine (HIN.out q).mono ?_
  rintro e w2 ⟨c', g', rfl, h1, h2⟩
  go_wp2
  go_ret
  exact ⟨c', g', rfl, h1, h2⟩

set_option maxRecDepth 100000 in
set_option maxHeartbeats 1000000 in
theorem without_list_calls (g : Nat) (l : List Int) (c : Nat) (id : Int) (w : World) (h : ILat w g l c) (hl : l.length ≤ 64) (hs : l.Pairwise (· ≤ ·)) (ha : pos l id < l.length) :
    Calls Tryz.prog 179 #[ilv l c (some g), .int .i64 id] w fun e w' => e = .returned (ilv (delA l (pos l id)) c (some g)) ∧ ILat w' g (delA l (pos l id)) c ∧ Fr (One g) w w' := by
  have H := hid h
  have hin : ∀ q, Calls Tryz.prog 216 #[ilv l c (some g), .int .i64 (pos l id : Nat), .int .i64 ((pos l id : Nat) + 1)] (w.drewN q) fun e w' => e = .returned (ilv (delA l (pos l id)) c (some g)) ∧ ILat w' g (delA l (pos l id)) c ∧ Fr (One g) w w' := fun q => by
    have f1 : Fr No w (w.drewN q) := (Fr.refl No w).drewN q
    refine (del_calls g l c (pos l id) _ (H.out.fr f1 (fun h => h)) ha).mono ?_
    rintro e w' ⟨rfl, h1, h2⟩
    exact ⟨rfl, h1, f1.no.trans h2⟩
  obtain ⟨lv, hlv⟩ : ∃ lv, ilv l c (some g) = lv := ⟨_, rfl⟩
  have hbs := bs_calls (some g) l c id w H.out hl hs
  rw [hlv] at hin hbs ⊢
  obtain ⟨p, hpp⟩ : ∃ p, pos l id = p := ⟨_, rfl⟩
  rw [hpp] at hin hbs ha ⊢
  have hp63 : (p : Int) < 64 := by omega
  have HIN := hid hin
  have HBS := hid hbs
  clear hin hbs h hs hlv hpp
  go_enter Tryz.func179, Tryz.ntmps179
  go_wp2_with fail
  refine HBS.out.mono ?_
  rintro e w1 ⟨r, rfl, q, rfl⟩
  go_wp2_with fail
  refine (HIN.out q).mono ?_
  rintro e w2 ⟨rfl, h1, h2⟩
  go_wp2
  go_ret
  exact ⟨rfl, h1, h2⟩

end Go.Proofs.YtoepbhacpidcbaaGreatDoor
/- A graph as plain mathematics, and how it lies in memory. -/
set_option linter.unusedVariables false
set_option linter.unusedSimpArgs false
namespace Go.Proofs.YtoepbhacpidcbaaGreatDoor
open Go.RowKit Go.Deep

/-- The places of which something holds, rising. -/
def sel (p : Nat → Bool) : List Int := ((List.range 64).filter p).map (fun i : Nat => (i : Int))
theorem range_at (k : Nat) (hk : k < 64) : List.range 64 = List.range k ++ k :: List.range' (k + 1) (63 - k) := by
  rw [List.range_eq_range', List.range_eq_range']
  have h1 : List.range' 0 64 = List.range' 0 k ++ List.range' (0 + k) (64 - k) := by
    rw [List.range'_append_1]; congr 1; omega
  have h2 : List.range' (0 + k) (64 - k) = k :: List.range' (k + 1) (63 - k) := by
    rw [Nat.zero_add, show 64 - k = (63 - k) + 1 by omega, List.range'_succ]
  rw [h1, h2]
def selA (p : Nat → Bool) (k : Nat) : List Int := ((List.range k).filter p).map (fun i : Nat => (i : Int))
def selB (p : Nat → Bool) (k : Nat) : List Int := ((List.range' (k + 1) (63 - k)).filter p).map (fun i : Nat => (i : Int))
theorem sel_no {p : Nat → Bool} {k : Nat} (hk : k < 64) (h : p k = false) : sel p = selA p k ++ selB p k := by
  unfold sel selA selB
  rw [range_at k hk, List.filter_append, List.filter_cons_of_neg (by simp [h]), List.map_append]
theorem sel_yes {p : Nat → Bool} {k : Nat} (hk : k < 64) (h : p k = true) : sel p = selA p k ++ (k : Int) :: selB p k := by
  unfold sel selA selB
  rw [range_at k hk, List.filter_append, List.filter_cons_of_pos (by simp [h]), List.map_append, List.map_cons]
theorem selA_congr {p q : Nat → Bool} {k : Nat} (h : ∀ i, i ≠ k → p i = q i) : selA p k = selA q k := by
  unfold selA
  congr 1
  refine List.filter_congr fun i hi => h i ?_
  have := List.mem_range.1 hi
  omega
theorem selB_congr {p q : Nat → Bool} {k : Nat} (h : ∀ i, i ≠ k → p i = q i) : selB p k = selB q k := by
  unfold selB
  congr 1
  refine List.filter_congr fun i hi => h i ?_
  have := List.mem_range'_1.1 hi
  omega
theorem sel_congr {p q : Nat → Bool} (h : ∀ i, i < 64 → p i = q i) : sel p = sel q := by
  unfold sel
  congr 1
  exact List.filter_congr fun i hi => h i (by simpa using hi)
theorem pos_AB (p q : Nat → Bool) (k : Nat) (M : List Int) (hM : ∀ z ∈ M, z = k) : pos (selA p k ++ (M ++ selB q k)) (k : Nat) = (selA p k).length := by
  unfold pos
  rw [List.countP_append, List.countP_append]
  have h1 : (selA p k).countP (· < ((k : Nat) : Int)) = (selA p k).length := List.countP_eq_length.2 fun z hz => by
    unfold selA at hz
    obtain ⟨i, hi, rfl⟩ := List.mem_map.1 hz
    have := List.mem_range.1 (List.mem_filter.1 hi).1
    simp; omega
  have h2 : (selB q k).countP (· < ((k : Nat) : Int)) = 0 := List.countP_eq_zero.2 fun z hz => by
    unfold selB at hz
    obtain ⟨i, hi, rfl⟩ := List.mem_map.1 hz
    have := List.mem_range'_1.1 (List.mem_filter.1 hi).1
    simp; omega
  have h3 : M.countP (· < ((k : Nat) : Int)) = 0 := List.countP_eq_zero.2 fun z hz => by rw [hM z hz]; simp
  omega
theorem sel_ins {p q : Nat → Bool} {k : Nat} (hk : k < 64) (hp : p k = false) (hq : q k = true) (h : ∀ i, i ≠ k → q i = p i) : insA (sel p) (pos (sel p) (k : Nat)) (k : Nat) = sel q := by
  have e := pos_AB p p k [] (fun z hz => by cases hz)
  rw [List.nil_append] at e
  rw [sel_no hk hp, e, sel_yes hk hq, selA_congr h, selB_congr h]
  unfold insA
  simp
theorem sel_del {p q : Nat → Bool} {k : Nat} (hk : k < 64) (hp : p k = true) (hq : q k = false) (h : ∀ i, i ≠ k → q i = p i) : pos (sel p) (k : Nat) < (sel p).length ∧ delA (sel p) (pos (sel p) (k : Nat)) = sel q := by
  have e := pos_AB p p k [(k : Int)] (fun z hz => by simpa using hz)
  rw [show selA p k ++ ([(k : Int)] ++ selB p k) = selA p k ++ (k : Int) :: selB p k from rfl] at e
  rw [sel_yes hk hp, e, sel_no hk hq, selA_congr h, selB_congr h]
  refine ⟨by simp, ?_⟩
  unfold delA
  simp
theorem sel_len (p : Nat → Bool) : (sel p).length ≤ 64 := by
  unfold sel
  rw [List.length_map]
  have := List.length_filter_le p (List.range 64)
  simpa using this
theorem sel_sorted (p : Nat → Bool) : (sel p).Pairwise (· ≤ ·) := by
  unfold sel
  rw [List.pairwise_map]
  refine List.Pairwise.filter _ ?_
  refine List.Pairwise.imp (R := (· < ·)) (fun h => by omega) ?_
  exact List.pairwise_lt_range
theorem sel_mem (p : Nat → Bool) (z : Int) : z ∈ sel p ↔ ∃ i : Nat, i < 64 ∧ p i = true ∧ z = i := by
  unfold sel
  rw [List.mem_map]
  constructor
  · rintro ⟨i, hi, rfl⟩
    have := List.mem_filter.1 hi
    exact ⟨i, by simpa using this.1, this.2, rfl⟩
  · rintro ⟨i, h1, h2, rfl⟩
    exact ⟨i, List.mem_filter.2 ⟨by simpa using h1, h2⟩, rfl⟩

/-- A graph. -/
structure Gr where
  n : Nat
  most : Nat
  arc : Nat → Arc4
  tk : Nat → Bool
def Gr.at (G : Gr) (q : Nat) (i : Nat) : Bool := G.tk i && decide ((if q % 2 = 0 then (G.arc i).t else (G.arc i).h) = (q / 2 : Nat))
/-- The arcs at a vertex: out of vertex q / 2 if q is even, else into it. -/
def Gr.lst (G : Gr) (q : Nat) : List Int := sel (G.at q)
def Gr.cnt (G : Gr) : Nat := (sel G.tk).length
def Gr.slot (G : Gr) (k c : Nat) : Value := if c = 0 then .int .i64 (G.arc k).t else if c = 1 then .int .i64 (G.arc k).h else if c = 2 then .int .i64 (G.arc k).w else if c = 3 then .bool (G.arc k).c else .bool (G.tk k)
def Gr.cell (G : Gr) (ba i : Nat) : Value := if i < 320 then G.slot (i / 5) (i % 5) else if i = 320 then .slice (some ⟨ba, 0, none⟩) G.n G.n else if i = 321 then .int .i64 (G.cnt : Nat) else .int .i64 (G.most : Nat)

structure GLoc where
  b : Nat
  ba : Nat
  g : Nat → Option Nat
  c : Nat → Nat
/-- The blocks of a graph. -/
def GLoc.own (L : GLoc) (n : Nat) (k : Nat) : Prop := k = L.b ∨ k = L.ba ∨ ∃ q, q < 2 * n ∧ L.g q = some k

structure Gr.Ok (G : Gr) : Prop where
  n1 : 1 ≤ G.n
  n2 : G.n ≤ 24
  m1 : 1 ≤ G.most
  m2 : G.most ≤ 64
  arc : ∀ i, i < 64 → G.tk i = true → 0 ≤ (G.arc i).t ∧ (G.arc i).t < G.n ∧ 0 ≤ (G.arc i).h ∧ (G.arc i).h < G.n

structure GMem (w : World) (L : GLoc) (G : Gr) : Prop where
  ok : G.Ok
  blk : Blk w L.b 323 197 (G.cell L.ba)
  at_ : Blk w L.ba (2 * G.n) 202 (fun q => ilv (G.lst q) (L.c q) (L.g q))
  ls : ∀ q, q < 2 * G.n → IL w (G.lst q) (L.c q) (L.g q)
  ne : L.b ≠ L.ba ∧ ∀ q k, q < 2 * G.n → L.g q = some k → k ≠ L.b ∧ k ≠ L.ba
  inj : ∀ p q k, p < 2 * G.n → q < 2 * G.n → L.g p = some k → L.g q = some k → p = q

theorem GMem.fr {w w' : World} {L : GLoc} {G : Gr} (h : GMem w L G) {F : Nat → Prop} (hf : Fr F w w') (hF : ∀ k, L.own G.n k → ¬ F k) : GMem w' L G :=
  ⟨h.ok, h.blk.fr hf (hF _ (.inl rfl)), h.at_.fr hf (hF _ (.inr (.inl rfl))), fun q hq => (h.ls q hq).fr hf (fun k hk => hF k (.inr (.inr ⟨q, hq, hk⟩))), h.ne, h.inj⟩
theorem GMem.no {w w' : World} {L : GLoc} {G : Gr} (h : GMem w L G) (hf : Fr No w w') : GMem w' L G := h.fr hf (fun _ _ h => h)
theorem GMem.own_lt {w : World} {L : GLoc} {G : Gr} (h : GMem w L G) {k : Nat} (hk : L.own G.n k) : k < w.heap.size := by
  rcases hk with rfl | rfl | ⟨q, hq, hk⟩
  · exact h.blk.lt
  · exact h.at_.lt
  · have := h.ls q hq
    rw [hk] at this
    exact ILat.lt this
theorem Gr.slot_cell (G : Gr) (ba k c : Nat) (hk : k < 64) (hc : c < 5) : G.cell ba (k * 5 + c) = G.slot k c := by
  unfold Gr.cell
  rw [if_pos (by omega), show (k * 5 + c) / 5 = k by omega, show (k * 5 + c) % 5 = c by omega]

end Go.Proofs.YtoepbhacpidcbaaGreatDoor
/- A copy of an index, and how much room its row has; walked. -/
set_option linter.unusedVariables false
set_option linter.unusedSimpArgs false
namespace Go.Proofs.YtoepbhacpidcbaaGreatDoor
open Go.RowKit Go.Deep

theorem own_cap {w : World} {base n size g cap : Nat} {e : TypeId} {xs : List Value} (h0 : 0 < n) (h : w.ownsRow base e size (.slice (some ⟨g, 0, none⟩) n cap) n xs) : n ≤ cap := by
  rcases h.2 with ⟨e1, _⟩ | ⟨g2, c2, cur, e1, _, _, hc, _⟩
  · cases e1
  · cases e1; exact hc

set_option maxHeartbeats 1000000 in
theorem clone2_calls (b off n c : Nat) (f : Nat → Int) (w : World) (h : ∀ j, j < n → w.cell? ⟨b, off + j, none⟩ = some (.int .i64 (f j))) (h0 : 0 < n) (hn : n ≤ 17592186043904) :
    Calls Tryz.prog 111 #[.slice (some ⟨b, off, none⟩) n c] w fun e w' => ∃ g cap, e = .returned (.slice (some ⟨g, 0, none⟩) n cap) ∧ Fr No w w' ∧ w.heap.size ≤ g ∧ g < w'.heap.size ∧
      (∀ j, j < n → w'.cell? ⟨g, j, none⟩ = some (.int .i64 (f j))) ∧ n ≤ cap := by
  have heq := fun w => Lib.run_eql_slice_nil (P := Tryz.prog) w 34 3 (some ⟨b, off, none⟩) n c 0 0 Tryz.underlying34
  obtain ⟨i0, hi, hz0, hz1, hz2⟩ := i_int
  have HI := hid hi
  have HZ0 := hid hz0
  have HZ1 := hid hz1
  have HZ2 := hid hz2
  have H := hid h
  clear hi hz0 hz1 hz2 h
  go_enter Tryz.func111, Tryz.ntmps111
  go_wp2_with (at_builtin; (refine wpList_append_lies _ rfl _ _ _ rfl w.heap.size 3 i0 (.int .i64 0) 1 8 Tryz.underlying34 HI.out HZ0.out HZ1.out HZ2.out rfl (by decide) (.slice (some ⟨w.heap.size, 0, none⟩) 0 0) 0 [] rfl (World.ownsRow_made _ #[] 0 (Nat.le_refl _) (Nat.zero_le _) rfl) ⟨b, off, none⟩ n c ((List.range n).map fun j => .int .i64 (f j)) rfl ?c1 ?c2 ?c3 h0 ?c4 ?c5 ?c6 (w.heap.size + 1) ?c7 ?_))
  case c1 => simp
  case c2 =>
    intro j u hu
    obtain ⟨hj, rfl⟩ : j < n ∧ u = .int .i64 (f j) := by
      rw [List.getElem?_map] at hu
      rcases Nat.lt_or_ge j n with hj | hj
      · rw [List.getElem?_range hj] at hu; simp at hu; exact ⟨hj, hu.symm⟩
      · rw [List.getElem?_eq_none (by simpa using hj)] at hu; simp at hu
    have hc := H.out j hj
    rw [Addr.add_mid, World.cell?_alloc_lt _ _ _ (World.block_lt_of_cell? _ _ hc)]
    exact hc
  case c3 => intro u hu; simp at hu; obtain ⟨j, _, rfl⟩ := hu; rfl
  case c4 => unfold maxLen; omega
  case c5 => omega
  case c6 => simp
  case c7 => simp
  intro g cap w1 hown hgrow hat hlt
  have HO := hid hown
  have HG := hid hgrow
  clear hown hgrow hat
  go_wp2
  go_ret
  obtain ⟨q1, q2, q3, q4, q5⟩ := own_cells HO.out
  exact ⟨g, cap, rfl, ((Fr.refl _ _).alloc _).grown HG.out (fun k e => by cases e; exact .inr (Nat.le_refl _)), q1, q2, q5, own_cap (by omega) HO.out⟩

theorem copy_end2 {w W2 w3 w4 : World} {L : IxLoc} {x : Ix} {c ga ca gb cb : Nat} (hcb : x.n ≤ cb) (hc : w.heap.size = c) (H : IxMem w L x) (HX : IxMem W2 L x) (kB : Blk W2 c 3458 182 (x.V L)) (kF : Fr No w W2) (hA : Fr No W2 w3)
    (hga : W2.heap.size ≤ ga) (hla : ga < w3.heap.size) (hna : ∀ j, j < x.n → w3.cell? ⟨ga, j, none⟩ = some (.int .i64 (x.rk j)))
    (hB : Fr No w3 w4) (hgb : w3.heap.size ≤ gb) (hlb : gb < w4.heap.size) (hnb : ∀ j, j < x.n → w4.cell? ⟨gb, j, none⟩ = some (.int .i64 (x.by_ j))) :
    ∃ C : IxLoc, Ending.returned (.pointer (some ⟨c, 0, none⟩)) = .returned (.pointer (some ⟨C.b, 0, none⟩)) ∧
      Fr No w ((w4.setCell ⟨c, 0, none⟩ (.slice (some ⟨ga, 0, none⟩) x.n ca)).setCell ⟨c, 1, none⟩ (.slice (some ⟨gb, 0, none⟩) x.n cb)) ∧
      IxMem ((w4.setCell ⟨c, 0, none⟩ (.slice (some ⟨ga, 0, none⟩) x.n ca)).setCell ⟨c, 1, none⟩ (.slice (some ⟨gb, 0, none⟩) x.n cb)) C x ∧ w.heap.size ≤ C.b ∧ w.heap.size ≤ C.br ∧ w.heap.size ≤ C.bb ∧ C.br ≠ C.b ∧ C.bb ≠ C.b ∧ x.n ≤ C.cb := by
  have s1 := kF.size
  have s2 := hA.size
  have s3 := hB.size
  have hcl := kB.lt
  have hF4 : Fr No w w4 := (kF.trans hA).trans hB
  have hFc : Fr (One c) w4 ((w4.setCell ⟨c, 0, none⟩ (.slice (some ⟨ga, 0, none⟩) x.n ca)).setCell ⟨c, 1, none⟩ (.slice (some ⟨gb, 0, none⟩) x.n cb)) := ((Fr.refl _ _).set1 _ _).set1 _ _
  have hgn := H.gn.lt
  refine ⟨⟨c, ga, gb, ca, cb⟩, rfl, (hF4.setCell (p := ⟨c, 0, none⟩) (.inr (by show w.heap.size ≤ c; omega)) _).setCell (p := ⟨c, 1, none⟩) (.inr (by show w.heap.size ≤ c; omega)) _, ⟨H.ok, ?_, ?_, ?_, ?_, ?_, ?_, ?_⟩, by show w.heap.size ≤ c; omega, ?_, ?_, ?_, ?_, hcb⟩
  · refine ((((kB.fr hA (fun h => h)).fr hB (fun h => h)).setCell 0 _).setCell 1 _).congr fun i hi => ?_
    unfold upd Ix.V
    by_cases e1 : i = 1
    · subst e1; rfl
    · by_cases e0 : i = 0
      · subst e0; rfl
      · simp [e0, e1]
  · show Nums _ ga x.n x.rk
    exact Nums.of_fr (fun j hj => hB.cell_some (hna j hj) (fun h => h)) hFc (by omega) (by show ¬ ga = c; omega)
  · show Nums _ gb x.n x.by_
    exact Nums.of_fr hnb hFc (by omega) (by show ¬ gb = c; omega)
  · exact ⟨by simp; omega, by show ga ≠ c; omega⟩
  · exact ⟨by simp; omega, by show gb ≠ c; omega⟩
  · exact (H.gn.fr hF4 (fun h => h)).fr hFc (by show ¬ _ = c; omega)
  · exact ⟨by show c ≠ 0; omega, by show ga ≠ 0; omega, by show gb ≠ 0; omega⟩
  · show w.heap.size ≤ ga; omega
  · show w.heap.size ≤ gb; omega
  · show ga ≠ c; omega
  · show gb ≠ c; omega

set_option maxRecDepth 100000 in
set_option maxHeartbeats 2000000 in
theorem copy2_calls {w : World} {L : IxLoc} {x : Ix} (h : IxMem w L x) :
    Calls Tryz.prog 89 #[.pointer (some ⟨L.b, 0, none⟩)] w fun e w' => ∃ C : IxLoc, e = .returned (.pointer (some ⟨C.b, 0, none⟩)) ∧ Fr No w w' ∧ IxMem w' C x ∧ w.heap.size ≤ C.b ∧ w.heap.size ≤ C.br ∧ w.heap.size ≤ C.bb ∧ C.br ≠ C.b ∧ C.bb ≠ C.b ∧ x.n ≤ C.cb := by
  have hd : Tryz.prog.underlying 182 = some _ := Tryz.underlying182
  have hi : (Tryz.prog.info? 182).map (·.size) = some 3458 := by kernel_rfl
  have hrg := hid h.rangeV
  have hlen := cellsV_len x L
  obtain ⟨X, hX⟩ : ∃ X, cellsV x L = X := ⟨_, rfl⟩
  have hone := hid (cellsV_one x L)
  have hbx : Hid (∀ (w : World) (b : Nat) (T : TypeId) (V : Nat → Value), Blk w b 3458 T V → Blk (w.setCells b 0 (cellsV x L)) b 3458 T (x.V L)) := hid (fun w b T V h => h.cellsV x L)
  rw [hX] at hlen hrg hone hbx
  clear hX
  have H := hid h
  clear h
  go_enter Tryz.func89, Tryz.ntmps89
  go_wp2_with (first
   | (refine wpList_load_mid rfl 182 (.tmp 5) rfl L.b 0 rfl X _ hrg.out hd rfl (by rw [hi, hlen]) ?_)
   | (refine wpList_store_mid rfl 182 (.tmp 3) (.tmp 6) rfl w.heap.size 0 X.toArray rfl rfl (by obtain ⟨V, hV⟩ := zeroBlk w; have := hV.there; simpa [hlen] using this) (by rw [hi]; simp [hlen]) hone.out ?_; simp only [List.toList_toArray]))
  have kB : Blk ((w.alloc (.cells Tryz.zeroCells182 182)).setCells w.heap.size 0 X) w.heap.size 3458 182 (x.V L) := by
    obtain ⟨V, hV⟩ := zeroBlk w
    exact hbx.out _ _ _ _ hV
  have kF : Fr No w ((w.alloc (.cells Tryz.zeroCells182 182)).setCells w.heap.size 0 X) := Fr.setCellsL (.inr (Nat.le_refl _)) _ _ _ ((Fr.refl _ _).alloc _)
  generalize ((w.alloc (.cells Tryz.zeroCells182 182)).setCells w.heap.size 0 X) = W2 at kB kF ⊢
  generalize hc : w.heap.size = c at kB ⊢
  have kB2 := hid kB
  have kF2 := hid kF
  have hx := H.out.no kF
  have k0 := hx.c0
  have k1 := hx.c1
  have kb0 : W2.cell? ⟨c, 0, none⟩ = some _ := kB.cell (i := 0) (by omega)
  have kb1 : W2.cell? ⟨c, 1, none⟩ = some _ := kB.cell (i := 1) (by omega)
  have kfz := fun i => kB.frozen i
  have kcl := kB.lt
  have kbl := hx.lt
  have klc : L.b < c := by rw [← hc]; exact H.out.lt
  have hn2 := hx.ok.n2
  have hn1 := hx.ok.n1
  have HX := hid hx
  clear kB kF hx hrg hone hbx hd hi hlen
  simp only [Act.put]
  go_region_with (first
    | (go_at_call 111
       refine (clone2_calls L.br 0 x.n L.cr (fun j => x.rk j) _ ?clp hn1 (by omega)).mono ?_
       (case clp => intro j hj; rw [Nat.zero_add]; first | exact HX.out.rk j hj | exact (HX.out.drewN _).rk j hj | exact HX.out.drew.rk j hj)
       rintro e w3 ⟨ga, ca, rfl, hfa, hga, hla, hna, _⟩
       have k0 := hfa.cell_some (p := ⟨L.b, 0, none⟩) k0 (fun h => h)
       have k1 := hfa.cell_some (p := ⟨L.b, 1, none⟩) k1 (fun h => h)
       obtain ⟨HFA, HNA⟩ := And.intro (hid hfa) (hid hna)
       clear hfa hna)
    | (go_at_call 111
       refine (clone2_calls L.bb 0 x.n L.cb (fun j => x.by_ j) _ ?clp hn1 (by omega)).mono ?_
       (case clp => intro j hj; rw [Nat.zero_add]; first | exact ((HX.out.drewN _).no HFA.out).by_ j hj | exact (((HX.out.drewN _).no HFA.out).drewN _).by_ j hj)
       rintro e w4 ⟨gb, cb, rfl, hfb, hgb, hlb, hnb, hcb⟩
       obtain ⟨HFB, HNB⟩ := And.intro (hid hfb) (hid hnb)
       have kb := kB2.out.fr (((Fr.of_drewN _).trans HFA.out).trans hfb) (fun h => h)
       have kb0 : w4.cell? ⟨c, 0, none⟩ = some _ := kb.cell (i := 0) (by omega)
       have kb1 : w4.cell? ⟨c, 1, none⟩ = some _ := kb.cell (i := 1) (by omega)
       have kfz := fun i => kb.frozen i
       have KB := hid kb
       clear hfb hnb kb))
  all_goals
    have hA : Fr No W2 w3 := ((Fr.refl No W2).drewN _).trans HFA.out
    clear HFA k0 k1 kb0 kb1 kfz
    have HA := hid hA
    clear hA
    go_wp2
    go_ret
    exact copy_end2 hcb (ca := ca) (cb := cb) hc H.out HX.out kB2.out kF2.out HA.out hga hla HNA.out HFB.out hgb hlb HNB.out

end Go.Proofs.YtoepbhacpidcbaaGreatDoor
