/- Whether two indices are the same; walked. -/
import Derived.Test.YtlncmnphjdeeoaaDoorBig
import Derived.Test.YtlncmnphjdeeoaaDoorFam
import Derived.Deep.MidRow
set_option linter.unusedVariables false
set_option linter.unusedSimpArgs false
namespace Go.Proofs.YtlncmnphjdeeoaaDoor
open Go.RowKit Go.Deep

set_option maxRecDepth 100000 in
set_option maxHeartbeats 2000000 in
theorem equal_calls {w : World} {b1 b2 n c1 c2 : Nat} {f : Nat → Nat} (h1 : Nums w b1 n f) (h2 : Nums w b2 n f) (hn : n ≤ 1000) :
    Calls Tryd.prog 79 #[.slice (some ⟨b1, 0, none⟩) n c1, .slice (some ⟨b2, 0, none⟩) n c2] w fun e w' => e = .returned (.bool true) ∧ Fr No w w' := by
  have H1 := hid h1
  have H2 := hid h2
  clear h1 h2
  go_enter Tryd.func79, Tryd.ntmps79
  go_wp2
  go_loopg [13] n (fun g p wr => ∃ j : Nat, p = .int .i64 j ∧ j ≤ n ∧ g = n - j ∧ Fr No w wr)
  case atStart => exact ⟨0, rfl, Nat.zero_le _, rfl, Fr.refl _ _⟩
  case round =>
    obtain ⟨j, rfl, hj, hg, hf⟩ := hrel
    have HG := hid hg
    have HF := hid hf
    clear hg hf
    by_cases hlt : j < n
    · have hlt2 : (j : Int) < n := by omega
      have q1 := HF.out.cell_some (H1.out j hlt) (fun h => h)
      have q2 := HF.out.cell_some (H2.out j hlt) (fun h => h)
      go_wp2_with fail
      go_quiet (fail)
      go_wp2
      go_roundg (n - (j + 1))
      case measure => have := HG.out; omega
      case rel => exact ⟨j + 1, by go_num, hlt, rfl, HF.out.drewN _⟩
    · have e : j = n := by omega
      subst e
      go_wp2
      go_ret
      exact ⟨rfl, HF.out⟩

theorem quiet_load {P : Program} {C : World → Prop} {o : Oper} {a : Act} {K : Act → Prop} (ty : TypeId) (x : Operand) (ho : o.op = .load ty x) (p v : Value) (hx : a.eval x = p) (hl : ∀ w, C w → (Instr.loadAt ty p).run P w = .ok v w) (hk : K (a.put o.dst v)) : o.quiet P a C K :=
  ⟨v, fun w hw => by
    have h := hl w hw
    unfold Oper.quietAt execOp
    simp only [ho, hx, Sem.run_bind, h, Result.andThen_ok, Sem.run_pure]
    exact ⟨rfl, rfl⟩, hk⟩

theorem Ix.K_wf {x : Ix} (h : x.Ok) : Wf x.K := fun i => by
  unfold Ix.K
  split
  · have hb : ∀ (e : En) c, e.Ok → -9223372036854775808 ≤ e.kf c ∧ e.kf c ≤ 9223372036854775807 := fun e c ho => by
      obtain ⟨h1, h2, h3, h4, h5, h6⟩ := ho
      unfold En.kf
      split
      · omega
      · split <;> omega
    split <;> exact hb _ _ (h.ent _ _)
  · omega

theorem IxMem.range {w : World} {L : IxLoc} {x : Ix} (h : IxMem w L x) : w.rangeAt L.b 2 (cellsR 3456 x.K) := fun j v hv => by
  rcases Nat.lt_or_ge j 3456 with hj | hj
  · simp only [cellsR, List.getElem?_map, List.getElem?_range hj, Option.map_some, Option.some.injEq] at hv
    subst hv
    rw [h.blk.cell (by omega), Ix.V, if_neg (by omega), if_neg (by omega), show 2 + j - 2 = j by omega]
  · rw [List.getElem?_eq_none (by simpa [cellsR] using hj)] at hv; cases hv

set_option maxRecDepth 100000 in
set_option maxHeartbeats 1000000 in
theorem isame_calls {w : World} {L M : IxLoc} {x y : Ix} (h1 : IxMem w L x) (h2 : IxMem w M y) (hn : x.n = y.n) (hr : x.rk = y.rk) :
    Calls Tryd.prog 40 #[.pointer (some ⟨L.b, 0, none⟩), .pointer (some ⟨M.b, 0, none⟩)] w fun e w' => ∃ r : Bool, e = .returned (.bool r) ∧ (r = true ↔ ∀ i, i < 3456 → x.K i = y.K i) ∧ Fr No w w' := by
  obtain ⟨r, hrun, hiff⟩ := run_equal_row (P := Tryd.prog) w (d := 9995) (m := 5) rowAll (by kernel_rfl) (by rfl) (by kernel_rfl) (Ix.K_wf h1.ok) (Ix.K_wf h2.ok)
  have hw : ∀ w' : World, (binOp .eql 115 (.agg (cellsR 3456 x.K).toArray) (.agg (cellsR 3456 y.K).toArray)).run Tryd.prog w' = .ok (.bool r) w' := fun w' => by
    obtain ⟨r', hrun', hiff'⟩ := run_equal_row (P := Tryd.prog) w' (d := 9995) (m := 5) rowAll (by kernel_rfl) (by rfl) (by kernel_rfl) (Ix.K_wf h1.ok) (Ix.K_wf h2.ok)
    have e : r' = r := by rw [Bool.eq_iff_iff, hiff', hiff]
    rw [e] at hrun'
    have h3 : (Op.equal 115 (.agg (cellsR 3456 x.K).toArray) (.agg (cellsR 3456 y.K).toArray)).run Tryd.prog w' = .ok r w' := hrun'
    simp [binOp, Sem.run_bind, h3]
  have hd : Tryd.prog.underlying 115 = some (.array 24 114) := Tryd.underlying115
  have hi : (Tryd.prog.info? 115).map (·.size) = some 3456 := by kernel_rfl
  have hl1 : ∀ n : Fam w, (Instr.loadAt 115 (.pointer (some ⟨L.b, 2, none⟩))).run Tryd.prog n.v = .ok (.agg (cellsR 3456 x.K).toArray) n.v := fun n => run_loadAt_mid n.v L.b 2 115 (cellsR 3456 x.K) _ (h1.no n.h).range hd rfl (by rw [hi]; simp [cellsR])
  have hl2 : ∀ n : Fam w, (Instr.loadAt 115 (.pointer (some ⟨M.b, 2, none⟩))).run Tryd.prog n.v = .ok (.agg (cellsR 3456 y.K).toArray) n.v := fun n => run_loadAt_mid n.v M.b 2 115 (cellsR 3456 y.K) _ (h2.no n.h).range hd rfl (by rw [hi]; simp [cellsR])
  have kk1 : ∀ n : Fam w, n.v.cell? ⟨L.b, 0, none⟩ = some (.slice (some ⟨L.br, 0, none⟩) x.n L.cr) := Fam.cell h1.c0
  have kk2 : ∀ n : Fam w, n.v.cell? ⟨M.b, 0, none⟩ = some (.slice (some ⟨M.br, 0, none⟩) x.n M.cr) := Fam.cell (by rw [hn]; exact h2.c0)
  have hn2 := h1.ok.n2
  have heq : ∀ n : Fam w, Calls Tryd.prog 79 #[.slice (some ⟨L.br, 0, none⟩) x.n L.cr, .slice (some ⟨M.br, 0, none⟩) x.n M.cr] n.v fun e w' => e = .returned (.bool true) ∧ Fr No n.v w' := fun n =>
    equal_calls (h1.no n.h).rk (by have := (h2.no n.h).rk; rw [← hr, ← hn] at this; exact this) (by omega)
  have heg : Tryd.prog.eqGuardType Tryd.prog.depth 115 = false := by kernel_rfl
  have HIFF := hid hiff
  obtain ⟨X, hX⟩ : ∃ X, (cellsR 3456 x.K).toArray = X := ⟨_, rfl⟩
  obtain ⟨Y, hY⟩ : ∃ Y, (cellsR 3456 y.K).toArray = Y := ⟨_, rfl⟩
  rw [hX] at hw hl1
  rw [hY] at hw hl2
  clear hX hY hrun hiff h1 h2 hn hr hd hi
  go_enter Tryd.func40, Tryd.ntmps40
  go_wp2_with fail
  refine wp_region_fam (by kernel_rfl) (by kernel_rfl) ?_
  iterate 13 (go_big_quiet_step (exact Calls.fam (heq _)))
  go_big_quiet_want
  refine quiet_load 115 (.tmp 17) rfl (.pointer (some ⟨L.b, 2, none⟩)) (.agg X) rfl (by rintro w' ⟨n, rfl⟩; exact hl1 n) ?_
  simp only [Act.put, List.setIfInBounds_toArray, List.set_cons_zero, List.set_cons_succ]
  go_big_quiet_on
  iterate 3 (go_big_quiet_step (exact Calls.fam (heq _)))
  go_big_quiet_want
  refine quiet_load 115 (.tmp 21) rfl (.pointer (some ⟨M.b, 2, none⟩)) (.agg Y) rfl (by rintro w' ⟨n, rfl⟩; exact hl2 n) ?_
  simp only [Act.put, List.setIfInBounds_toArray, List.set_cons_zero, List.set_cons_succ]
  go_big_quiet_on
  clear hl1 hl2
  repeat (go_big_quiet_step (exact Calls.fam (heq _)))
  refine wpQuiet_nil ?_
  rintro w7 ⟨⟨w7, hf7⟩, rfl⟩
  go_wp2
  go_ret
  exact ⟨r, rfl, HIFF.out, hf7⟩

end Go.Proofs.YtlncmnphjdeeoaaDoor
