/- Whether two indices are the same; walked. -/
import Derived.Test.YtlncmnphjdeeoaaDoorBig
import Derived.Test.YtlncmnphjdeeoaaDoorFam
import Derived.Deep.MidRow
set_option linter.unusedVariables false
set_option linter.unusedSimpArgs false
namespace Go.Proofs.YtlncmnphjdeeoaaDoor
open Go.RowKit Go.Deep

set_option maxRecDepth 100000 in
set_option maxHeartbeats 2000000 in
theorem equal_calls {w : World} {b1 b2 n c1 c2 : Nat} {f : Nat → Nat} (h1 : Nums w b1 n f) (h2 : Nums w b2 n f) (hn : n ≤ 1000) :
    Calls Tryd.prog 79 #[.slice (some ⟨b1, 0, none⟩) n c1, .slice (some ⟨b2, 0, none⟩) n c2] w fun e w' => e = .returned (.bool true) ∧ Fr No w w' := by
  have H1 := hid h1
  have H2 := hid h2
  clear h1 h2
  go_enter Tryd.func79, Tryd.ntmps79
  go_wp2
  go_loopg [13] n (fun g p wr => ∃ j : Nat, p = .int .i64 j ∧ j ≤ n ∧ g = n - j ∧ Fr No w wr)
  case atStart => exact ⟨0, rfl, Nat.zero_le _, rfl, Fr.refl _ _⟩
  case round =>
    obtain ⟨j, rfl, hj, hg, hf⟩ := hrel
    have HG := hid hg
    have HF := hid hf
    clear hg hf
    by_cases hlt : j < n
    · have hlt2 : (j : Int) < n := by omega
      have q1 := HF.out.cell_some (H1.out j hlt) (fun h => h)
      have q2 := HF.out.cell_some (H2.out j hlt) (fun h => h)
      go_wp2_with fail
      go_quiet (fail)
      go_wp2
      go_roundg (n - (j + 1))
      case measure => have := HG.out; omega
      case rel => exact ⟨j + 1, by go_num, hlt, rfl, HF.out.drewN _⟩
    · have e : j = n := by omega
      subst e
      go_wp2
      go_ret
      exact ⟨rfl, HF.out⟩

theorem quiet_load {P : Program} {C : World → Prop} {o : Oper} {a : Act} {K : Act → Prop} (ty : TypeId) (x : Operand) (ho : o.op = .load ty x) (p v : Value) (hx : a.eval x = p) (hl : ∀ w, C w → (Instr.loadAt ty p).run P w = .ok v w) (hk : K (a.put o.dst v)) : o.quiet P a C K :=
  ⟨v, fun w hw => by
    have h := hl w hw
    unfold Oper.quietAt execOp
    simp only [ho, hx, Sem.run_bind, h, Result.andThen_ok, Sem.run_pure]
    exact ⟨rfl, rfl⟩, hk⟩

theorem Ix.K_wf {x : Ix} (h : x.Ok) : Wf x.K := fun i => by
  unfold Ix.K
  split
  · have hb : ∀ (e : En) c, e.Ok → -9223372036854775808 ≤ e.kf c ∧ e.kf c ≤ 9223372036854775807 := fun e c ho => by
      obtain ⟨h1, h2, h3, h4, h5, h6⟩ := ho
      unfold En.kf
      split
      · omega
      · split <;> omega
    split <;> exact hb _ _ (h.ent _ _)
  · omega

theorem IxMem.range {w : World} {L : IxLoc} {x : Ix} (h : IxMem w L x) : w.rangeAt L.b 2 (cellsR 3456 x.K) := fun j v hv => by
  rcases Nat.lt_or_ge j 3456 with hj | hj
  · simp only [cellsR, List.getElem?_map, List.getElem?_range hj, Option.map_some, Option.some.injEq] at hv
    subst hv
    rw [h.blk.cell (by omega), Ix.V, if_neg (by omega), if_neg (by omega), show 2 + j - 2 = j by omega]
  · rw [List.getElem?_eq_none (by simpa [cellsR] using hj)] at hv; cases hv

set_option maxRecDepth 100000 in
set_option maxHeartbeats 1000000 in
theorem isame_calls {w : World} {L M : IxLoc} {x y : Ix} (h1 : IxMem w L x) (h2 : IxMem w M y) (hn : x.n = y.n) (hr : x.rk = y.rk) :
    Calls Tryd.prog 40 #[.pointer (some ⟨L.b, 0, none⟩), .pointer (some ⟨M.b, 0, none⟩)] w fun e w' => ∃ r : Bool, e = .returned (.bool r) ∧ (r = true ↔ ∀ i, i < 3456 → x.K i = y.K i) ∧ Fr No w w' := by
  obtain ⟨r, hrun, hiff⟩ := run_equal_row (P := Tryd.prog) w (d := 9995) (m := 5) rowAll (by kernel_rfl) (by rfl) (by kernel_rfl) (Ix.K_wf h1.ok) (Ix.K_wf h2.ok)
  have hw : ∀ w' : World, (binOp .eql 115 (.agg (cellsR 3456 x.K).toArray) (.agg (cellsR 3456 y.K).toArray)).run Tryd.prog w' = .ok (.bool r) w' := fun w' => by
    obtain ⟨r', hrun', hiff'⟩ := run_equal_row (P := Tryd.prog) w' (d := 9995) (m := 5) rowAll (by kernel_rfl) (by rfl) (by kernel_rfl) (Ix.K_wf h1.ok) (Ix.K_wf h2.ok)
    have e : r' = r := by rw [Bool.eq_iff_iff, hiff', hiff]
    rw [e] at hrun'
    have h3 : (Op.equal 115 (.agg (cellsR 3456 x.K).toArray) (.agg (cellsR 3456 y.K).toArray)).run Tryd.prog w' = .ok r w' := hrun'
    simp [binOp, Sem.run_bind, h3]
  have hd : Tryd.prog.underlying 115 = some (.array 24 114) := Tryd.underlying115
  have hi : (Tryd.prog.info? 115).map (·.size) = some 3456 := by kernel_rfl
  have hl1 : ∀ n : Fam w, (Instr.loadAt 115 (.pointer (some ⟨L.b, 2, none⟩))).run Tryd.prog n.v = .ok (.agg (cellsR 3456 x.K).toArray) n.v := fun n => run_loadAt_mid n.v L.b 2 115 (cellsR 3456 x.K) _ (h1.no n.h).range hd rfl (by rw [hi]; simp [cellsR])
  have hl2 : ∀ n : Fam w, (Instr.loadAt 115 (.pointer (some ⟨M.b, 2, none⟩))).run Tryd.prog n.v = .ok (.agg (cellsR 3456 y.K).toArray) n.v := fun n => run_loadAt_mid n.v M.b 2 115 (cellsR 3456 y.K) _ (h2.no n.h).range hd rfl (by rw [hi]; simp [cellsR])
  have kk1 : ∀ n : Fam w, n.v.cell? ⟨L.b, 0, none⟩ = some (.slice (some ⟨L.br, 0, none⟩) x.n L.cr) := Fam.cell h1.c0
  have kk2 : ∀ n : Fam w, n.v.cell? ⟨M.b, 0, none⟩ = some (.slice (some ⟨M.br, 0, none⟩) x.n M.cr) := Fam.cell (by rw [hn]; exact h2.c0)
  have hn2 := h1.ok.n2
  have heq : ∀ n : Fam w, Calls Tryd.prog 79 #[.slice (some ⟨L.br, 0, none⟩) x.n L.cr, .slice (some ⟨M.br, 0, none⟩) x.n M.cr] n.v fun e w' => e = .returned (.bool true) ∧ Fr No n.v w' := fun n =>
    equal_calls (h1.no n.h).rk (by have := (h2.no n.h).rk; rw [← hr, ← hn] at this; exact this) (by omega)
  have heg : Tryd.prog.eqGuardType Tryd.prog.depth 115 = false := by kernel_rfl
  have HIFF := hid hiff
  obtain ⟨X, hX⟩ : ∃ X, (cellsR 3456 x.K).toArray = X := ⟨_, rfl⟩
  obtain ⟨Y, hY⟩ : ∃ Y, (cellsR 3456 y.K).toArray = Y := ⟨_, rfl⟩
  rw [hX] at hw hl1
  rw [hY] at hw hl2
  clear hX hY hrun hiff h1 h2 hn hr hd hi
  go_enter Tryd.func40, Tryd.ntmps40
  go_wp2_with fail
  refine wp_region_fam (by kernel_rfl) (by kernel_rfl) ?_
  iterate 13 (go_big_quiet_step (exact Calls.fam (heq _)))
  go_big_quiet_want
  refine quiet_load 115 (.tmp 17) rfl (.pointer (some ⟨L.b, 2, none⟩)) (.agg X) rfl (by rintro w' ⟨n, rfl⟩; exact hl1 n) ?_
  simp only [Act.put, List.setIfInBounds_toArray, List.set_cons_zero, List.set_cons_succ]
  go_big_quiet_on
  iterate 3 (go_big_quiet_step (exact Calls.fam (heq _)))
  go_big_quiet_want
  refine quiet_load 115 (.tmp 21) rfl (.pointer (some ⟨M.b, 2, none⟩)) (.agg Y) rfl (by rintro w' ⟨n, rfl⟩; exact hl2 n) ?_
  simp only [Act.put, List.setIfInBounds_toArray, List.set_cons_zero, List.set_cons_succ]
  go_big_quiet_on
  clear hl1 hl2
  repeat (go_big_quiet_step (exact Calls.fam (heq _)))
  refine wpQuiet_nil ?_
  rintro w7 ⟨⟨w7, hf7⟩, rfl⟩
  go_wp2
  go_ret
  exact ⟨r, rfl, HIFF.out, hf7⟩

end Go.Proofs.YtlncmnphjdeeoaaDoor

/- A copy of an index; walked. -/
set_option linter.unusedVariables false
set_option linter.unusedSimpArgs false
namespace Go.Proofs.YtlncmnphjdeeoaaDoor
open Go.RowKit Go.Deep

theorem Blk.setCells {b n : Nat} {T : TypeId} : ∀ (vs : List Value) (o : Nat) (w : World) (V : Nat → Value), Blk w b n T V →
    Blk (w.setCells b o vs) b n T (fun i => if o ≤ i ∧ i < o + vs.length then vs.getD (i - o) undef else V i)
  | [], o, w, V, h => h.congr fun i _ => by simp; intro h1 h2; omega
  | v :: r, o, w, V, h => by
    rw [World.setCells]
    refine (Blk.setCells r (o + 1) _ _ (h.setCell o v)).congr fun i _ => ?_
    simp only [upd, List.length_cons]
    by_cases e : i = o
    · subst e
      rw [if_neg (by omega), if_pos rfl, if_pos (by omega)]
      simp
    · rw [if_neg e]
      by_cases e2 : o + 1 ≤ i ∧ i < o + 1 + r.length
      · rw [if_pos e2, if_pos (by omega), show i - o = (i - (o + 1)) + 1 by omega]
        simp
      · rw [if_neg e2, if_neg (by omega)]

theorem Fr.setCellsL {F : Nat → Prop} {a : World} {b : Nat} (hb : F b ∨ a.heap.size ≤ b) : ∀ (vs : List Value) (o : Nat) (w : World), Fr F a w → Fr F a (w.setCells b o vs)
  | [], _, _, h => h
  | v :: r, o, w, h => by rw [World.setCells]; exact Fr.setCellsL hb r (o + 1) _ (h.setCell (p := ⟨b, o, none⟩) hb v)

def cellsV (x : Ix) (L : IxLoc) : List Value := (List.range 3458).map (x.V L)
theorem cellsV_len (x : Ix) (L : IxLoc) : (cellsV x L).length = 3458 := by simp [cellsV]
theorem IxMem.rangeV {w : World} {L : IxLoc} {x : Ix} (h : IxMem w L x) : w.rangeAt L.b 0 (cellsV x L) := fun j v hv => by
  rcases Nat.lt_or_ge j 3458 with hj | hj
  · simp only [cellsV, List.getElem?_map, List.getElem?_range hj, Option.map_some, Option.some.injEq] at hv
    subst hv
    rw [Nat.zero_add, h.blk.cell hj]
  · rw [List.getElem?_eq_none (by simpa [cellsV] using hj)] at hv; cases hv

theorem cellsV_one (x : Ix) (L : IxLoc) : (cellsV x L).toArray.all (·.oneCell') = true := all_oneCell_toArray fun v hv => by
  simp only [cellsV, List.mem_map] at hv
  obtain ⟨i, _, rfl⟩ := hv
  unfold Ix.V
  split
  · rfl
  · split <;> rfl

theorem Blk.cellsV {w : World} {b : Nat} {T : TypeId} {V : Nat → Value} (h : Blk w b 3458 T V) (x : Ix) (L : IxLoc) : Blk (w.setCells b 0 (cellsV x L)) b 3458 T (x.V L) :=
  (Blk.setCells _ 0 w V h).congr fun i hi => by
    rw [cellsV_len, if_pos (by omega)]
    simp [Go.Proofs.YtlncmnphjdeeoaaDoor.cellsV, List.getD, hi]

theorem Blk.there {w : World} {b n : Nat} {T : TypeId} {V : Nat → Value} (h : Blk w b n T V) : w.there b 0 n := fun j hj =>
  ⟨by rw [Nat.zero_add, h.cell hj]; rfl, h.frozen _⟩

theorem zeroBlk (w : World) : ∃ V, Blk (w.alloc (.cells Tryd.zeroCells117 117)) w.heap.size 3458 117 V :=
  ⟨fun i => Tryd.zeroCells117.getD i undef, _, heap_new _ _, by simp [Tryd.zeroCells117_size], fun i hi => by
    simp [hi, Tryd.zeroCells117_size]⟩

theorem copy_end {w W2 w3 w4 : World} {L : IxLoc} {x : Ix} {c ga ca gb cb : Nat} (hc : w.heap.size = c) (H : IxMem w L x) (HX : IxMem W2 L x) (kB : Blk W2 c 3458 117 (x.V L)) (kF : Fr No w W2) (hA : Fr No W2 w3)
    (hga : W2.heap.size ≤ ga) (hla : ga < w3.heap.size) (hna : ∀ j, j < x.n → w3.cell? ⟨ga, j, none⟩ = some (.int .i64 (x.rk j)))
    (hB : Fr No w3 w4) (hgb : w3.heap.size ≤ gb) (hlb : gb < w4.heap.size) (hnb : ∀ j, j < x.n → w4.cell? ⟨gb, j, none⟩ = some (.int .i64 (x.by_ j))) :
    ∃ C : IxLoc, Ending.returned (.pointer (some ⟨c, 0, none⟩)) = .returned (.pointer (some ⟨C.b, 0, none⟩)) ∧
      Fr No w ((w4.setCell ⟨c, 0, none⟩ (.slice (some ⟨ga, 0, none⟩) x.n ca)).setCell ⟨c, 1, none⟩ (.slice (some ⟨gb, 0, none⟩) x.n cb)) ∧
      IxMem ((w4.setCell ⟨c, 0, none⟩ (.slice (some ⟨ga, 0, none⟩) x.n ca)).setCell ⟨c, 1, none⟩ (.slice (some ⟨gb, 0, none⟩) x.n cb)) C x ∧ w.heap.size ≤ C.b ∧ w.heap.size ≤ C.br ∧ w.heap.size ≤ C.bb ∧ C.br ≠ C.b ∧ C.bb ≠ C.b := by
  have s1 := kF.size
  have s2 := hA.size
  have s3 := hB.size
  have hcl := kB.lt
  have hF4 : Fr No w w4 := (kF.trans hA).trans hB
  have hFc : Fr (One c) w4 ((w4.setCell ⟨c, 0, none⟩ (.slice (some ⟨ga, 0, none⟩) x.n ca)).setCell ⟨c, 1, none⟩ (.slice (some ⟨gb, 0, none⟩) x.n cb)) := ((Fr.refl _ _).set1 _ _).set1 _ _
  have hgn := H.gn.lt
  refine ⟨⟨c, ga, gb, ca, cb⟩, rfl, (hF4.setCell (p := ⟨c, 0, none⟩) (.inr (by show w.heap.size ≤ c; omega)) _).setCell (p := ⟨c, 1, none⟩) (.inr (by show w.heap.size ≤ c; omega)) _, ⟨H.ok, ?_, ?_, ?_, ?_, ?_, ?_, ?_⟩, by show w.heap.size ≤ c; omega, ?_, ?_, ?_, ?_⟩
  · refine ((((kB.fr hA (fun h => h)).fr hB (fun h => h)).setCell 0 _).setCell 1 _).congr fun i hi => ?_
    unfold upd Ix.V
    by_cases e1 : i = 1
    · subst e1; rfl
    · by_cases e0 : i = 0
      · subst e0; rfl
      · simp [e0, e1]
  · show Nums _ ga x.n x.rk
    exact Nums.of_fr (fun j hj => hB.cell_some (hna j hj) (fun h => h)) hFc (by omega) (by show ¬ ga = c; omega)
  · show Nums _ gb x.n x.by_
    exact Nums.of_fr hnb hFc (by omega) (by show ¬ gb = c; omega)
  · exact ⟨by simp; omega, by show ga ≠ c; omega⟩
  · exact ⟨by simp; omega, by show gb ≠ c; omega⟩
  · exact (H.gn.fr hF4 (fun h => h)).fr hFc (by show ¬ _ = c; omega)
  · exact ⟨by show c ≠ 0; omega, by show ga ≠ 0; omega, by show gb ≠ 0; omega⟩
  · show w.heap.size ≤ ga; omega
  · show w.heap.size ≤ gb; omega
  · show ga ≠ c; omega
  · show gb ≠ c; omega

set_option maxRecDepth 100000 in
set_option maxHeartbeats 2000000 in
theorem copy_calls {w : World} {L : IxLoc} {x : Ix} (h : IxMem w L x) :
    Calls Tryd.prog 39 #[.pointer (some ⟨L.b, 0, none⟩)] w fun e w' => ∃ C : IxLoc, e = .returned (.pointer (some ⟨C.b, 0, none⟩)) ∧ Fr No w w' ∧ IxMem w' C x ∧ w.heap.size ≤ C.b ∧ w.heap.size ≤ C.br ∧ w.heap.size ≤ C.bb ∧ C.br ≠ C.b ∧ C.bb ≠ C.b := by
  have hd : Tryd.prog.underlying 117 = some _ := Tryd.underlying117
  have hi : (Tryd.prog.info? 117).map (·.size) = some 3458 := by kernel_rfl
  have hrg := hid h.rangeV
  have hlen := cellsV_len x L
  obtain ⟨X, hX⟩ : ∃ X, cellsV x L = X := ⟨_, rfl⟩
  have hone := hid (cellsV_one x L)
  have hbx : Hid (∀ (w : World) (b : Nat) (T : TypeId) (V : Nat → Value), Blk w b 3458 T V → Blk (w.setCells b 0 (cellsV x L)) b 3458 T (x.V L)) := hid (fun w b T V h => h.cellsV x L)
  rw [hX] at hlen hrg hone hbx
  clear hX
  have H := hid h
  clear h
  go_enter Tryd.func39, Tryd.ntmps39
  go_wp2_with (first
   | (refine wpList_load_mid rfl 117 (.tmp 5) rfl L.b 0 rfl X _ hrg.out hd rfl (by rw [hi, hlen]) ?_)
   | (refine wpList_store_mid rfl 117 (.tmp 3) (.tmp 6) rfl w.heap.size 0 X.toArray rfl rfl (by obtain ⟨V, hV⟩ := zeroBlk w; have := hV.there; simpa [hlen] using this) (by rw [hi]; simp [hlen]) hone.out ?_; simp only [List.toList_toArray]))
  have kB : Blk ((w.alloc (.cells Tryd.zeroCells117 117)).setCells w.heap.size 0 X) w.heap.size 3458 117 (x.V L) := by
    obtain ⟨V, hV⟩ := zeroBlk w
    exact hbx.out _ _ _ _ hV
  have kF : Fr No w ((w.alloc (.cells Tryd.zeroCells117 117)).setCells w.heap.size 0 X) := Fr.setCellsL (.inr (Nat.le_refl _)) _ _ _ ((Fr.refl _ _).alloc _)
  generalize ((w.alloc (.cells Tryd.zeroCells117 117)).setCells w.heap.size 0 X) = W2 at kB kF ⊢
  generalize hc : w.heap.size = c at kB ⊢
  have kB2 := hid kB
  have kF2 := hid kF
  have hx := H.out.no kF
  have k0 := hx.c0
  have k1 := hx.c1
  have kb0 : W2.cell? ⟨c, 0, none⟩ = some _ := kB.cell (i := 0) (by omega)
  have kb1 : W2.cell? ⟨c, 1, none⟩ = some _ := kB.cell (i := 1) (by omega)
  have kfz := fun i => kB.frozen i
  have kcl := kB.lt
  have kbl := hx.lt
  have klc : L.b < c := by rw [← hc]; exact H.out.lt
  have hn2 := hx.ok.n2
  have hn1 := hx.ok.n1
  have HX := hid hx
  clear kB kF hx hrg hone hbx hd hi hlen
  simp only [Act.put]
  go_region_with (first
    | (go_at_call 69
       refine (clone_calls L.br 0 x.n L.cr (fun j => x.rk j) _ ?clp hn1 (by omega)).mono ?_
       (case clp => intro j hj; rw [Nat.zero_add]; first | exact HX.out.rk j hj | exact (HX.out.drewN _).rk j hj | exact HX.out.drew.rk j hj)
       rintro e w3 ⟨ga, ca, rfl, hfa, hga, hla, hna⟩
       have k0 := hfa.cell_some (p := ⟨L.b, 0, none⟩) k0 (fun h => h)
       have k1 := hfa.cell_some (p := ⟨L.b, 1, none⟩) k1 (fun h => h)
       obtain ⟨HFA, HNA⟩ := And.intro (hid hfa) (hid hna)
       clear hfa hna)
    | (go_at_call 69
       refine (clone_calls L.bb 0 x.n L.cb (fun j => x.by_ j) _ ?clp hn1 (by omega)).mono ?_
       (case clp => intro j hj; rw [Nat.zero_add]; first | exact ((HX.out.drewN _).no HFA.out).by_ j hj | exact (((HX.out.drewN _).no HFA.out).drewN _).by_ j hj)
       rintro e w4 ⟨gb, cb, rfl, hfb, hgb, hlb, hnb⟩
       obtain ⟨HFB, HNB⟩ := And.intro (hid hfb) (hid hnb)
       have kb := kB2.out.fr (((Fr.of_drewN _).trans HFA.out).trans hfb) (fun h => h)
       have kb0 : w4.cell? ⟨c, 0, none⟩ = some _ := kb.cell (i := 0) (by omega)
       have kb1 : w4.cell? ⟨c, 1, none⟩ = some _ := kb.cell (i := 1) (by omega)
       have kfz := fun i => kb.frozen i
       have KB := hid kb
       clear hfb hnb kb))
  all_goals
    have hA : Fr No W2 w3 := ((Fr.refl No W2).drewN _).trans HFA.out
    clear HFA k0 k1 kb0 kb1 kfz
    have HA := hid hA
    clear hA
    go_wp2
    go_ret
    exact copy_end (ca := ca) (cb := cb) hc H.out HX.out kB2.out kF2.out HA.out hga hla HNA.out HFB.out hgb hlb HNB.out

end Go.Proofs.YtlncmnphjdeeoaaDoor
