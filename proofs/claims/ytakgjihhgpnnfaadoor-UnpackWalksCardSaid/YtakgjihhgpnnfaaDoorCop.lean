/- Whether two indices are the same; walked. -/
import Derived.Test.YtakgjihhgpnnfaaDoorBig
import Derived.Test.YtakgjihhgpnnfaaDoorFam
import Derived.Deep.MidRow
set_option linter.unusedVariables false
set_option linter.unusedSimpArgs false
namespace Go.Proofs.YtakgjihhgpnnfaaDoor
open Go.RowKit Go.Deep

theorem quiet_load {P : Program} {C : World → Prop} {o : Oper} {a : Act} {K : Act → Prop} (ty : TypeId) (x : Operand) (ho : o.op = .load ty x) (p v : Value) (hx : a.eval x = p) (hl : ∀ w, C w → (Instr.loadAt ty p).run P w = .ok v w) (hk : K (a.put o.dst v)) : o.quiet P a C K :=
  ⟨v, fun w hw => by
    have h := hl w hw
    unfold Oper.quietAt execOp
    simp only [ho, hx, Sem.run_bind, h, Result.andThen_ok, Sem.run_pure]
    exact ⟨rfl, rfl⟩, hk⟩

theorem Ix.K_wf {x : Ix} (h : x.Ok) : Wf x.K := fun i => by
  unfold Ix.K
  split
  · have hb : ∀ (e : En) c, e.Ok → -9223372036854775808 ≤ e.kf c ∧ e.kf c ≤ 9223372036854775807 := fun e c ho => by
      obtain ⟨h1, h2, h3, h4, h5, h6⟩ := ho
      unfold En.kf
      split
      · omega
      · split <;> omega
    split <;> exact hb _ _ (h.ent _ _)
  · omega

theorem IxMem.range {w : World} {L : IxLoc} {x : Ix} (h : IxMem w L x) : w.rangeAt L.b 2 (cellsR 3456 x.K) := fun j v hv => by
  rcases Nat.lt_or_ge j 3456 with hj | hj
  · simp only [cellsR, List.getElem?_map, List.getElem?_range hj, Option.map_some, Option.some.injEq] at hv
    subst hv
    rw [h.blk.cell (by omega), Ix.V, if_neg (by omega), if_neg (by omega), show 2 + j - 2 = j by omega]
  · rw [List.getElem?_eq_none (by simpa [cellsR] using hj)] at hv; cases hv

end Go.Proofs.YtakgjihhgpnnfaaDoor

/- A copy of an index; walked. -/
set_option linter.unusedVariables false
set_option linter.unusedSimpArgs false
namespace Go.Proofs.YtakgjihhgpnnfaaDoor
open Go.RowKit Go.Deep

theorem Blk.setCells {b n : Nat} {T : TypeId} : ∀ (vs : List Value) (o : Nat) (w : World) (V : Nat → Value), Blk w b n T V →
    Blk (w.setCells b o vs) b n T (fun i => if o ≤ i ∧ i < o + vs.length then vs.getD (i - o) undef else V i)
  | [], o, w, V, h => h.congr fun i _ => by simp; intro h1 h2; omega
  | v :: r, o, w, V, h => by
    rw [World.setCells]
    refine (Blk.setCells r (o + 1) _ _ (h.setCell o v)).congr fun i _ => ?_
    simp only [upd, List.length_cons]
    by_cases e : i = o
    · subst e
      rw [if_neg (by omega), if_pos rfl, if_pos (by omega)]
      simp
    · rw [if_neg e]
      by_cases e2 : o + 1 ≤ i ∧ i < o + 1 + r.length
      · rw [if_pos e2, if_pos (by omega), show i - o = (i - (o + 1)) + 1 by omega]
        simp
      · rw [if_neg e2, if_neg (by omega)]

theorem Fr.setCellsL {F : Nat → Prop} {a : World} {b : Nat} (hb : F b ∨ a.heap.size ≤ b) : ∀ (vs : List Value) (o : Nat) (w : World), Fr F a w → Fr F a (w.setCells b o vs)
  | [], _, _, h => h
  | v :: r, o, w, h => by rw [World.setCells]; exact Fr.setCellsL hb r (o + 1) _ (h.setCell (p := ⟨b, o, none⟩) hb v)

def cellsV (x : Ix) (L : IxLoc) : List Value := (List.range 3458).map (x.V L)
theorem cellsV_len (x : Ix) (L : IxLoc) : (cellsV x L).length = 3458 := by simp [cellsV]
theorem IxMem.rangeV {w : World} {L : IxLoc} {x : Ix} (h : IxMem w L x) : w.rangeAt L.b 0 (cellsV x L) := fun j v hv => by
  rcases Nat.lt_or_ge j 3458 with hj | hj
  · simp only [cellsV, List.getElem?_map, List.getElem?_range hj, Option.map_some, Option.some.injEq] at hv
    subst hv
    rw [Nat.zero_add, h.blk.cell hj]
  · rw [List.getElem?_eq_none (by simpa [cellsV] using hj)] at hv; cases hv

theorem cellsV_one (x : Ix) (L : IxLoc) : (cellsV x L).toArray.all (·.oneCell') = true := all_oneCell_toArray fun v hv => by
  simp only [cellsV, List.mem_map] at hv
  obtain ⟨i, _, rfl⟩ := hv
  unfold Ix.V
  split
  · rfl
  · split <;> rfl

theorem Blk.cellsV {w : World} {b : Nat} {T : TypeId} {V : Nat → Value} (h : Blk w b 3458 T V) (x : Ix) (L : IxLoc) : Blk (w.setCells b 0 (cellsV x L)) b 3458 T (x.V L) :=
  (Blk.setCells _ 0 w V h).congr fun i hi => by
    rw [cellsV_len, if_pos (by omega)]
    simp [Go.Proofs.YtakgjihhgpnnfaaDoor.cellsV, List.getD, hi]

theorem Blk.there {w : World} {b n : Nat} {T : TypeId} {V : Nat → Value} (h : Blk w b n T V) : w.there b 0 n := fun j hj =>
  ⟨by rw [Nat.zero_add, h.cell hj]; rfl, h.frozen _⟩

theorem zeroBlk (w : World) : ∃ V, Blk (w.alloc (.cells Tryd.zeroCells109 109)) w.heap.size 3458 109 V :=
  ⟨fun i => Tryd.zeroCells109.getD i undef, _, heap_new _ _, by simp [Tryd.zeroCells109_size], fun i hi => by
    simp [hi, Tryd.zeroCells109_size]⟩

theorem copy_end {w W2 w3 w4 : World} {L : IxLoc} {x : Ix} {c ga ca gb cb : Nat} (hc : w.heap.size = c) (H : IxMem w L x) (HX : IxMem W2 L x) (kB : Blk W2 c 3458 109 (x.V L)) (kF : Fr No w W2) (hA : Fr No W2 w3)
    (hga : W2.heap.size ≤ ga) (hla : ga < w3.heap.size) (hna : ∀ j, j < x.n → w3.cell? ⟨ga, j, none⟩ = some (.int .i64 (x.rk j)))
    (hB : Fr No w3 w4) (hgb : w3.heap.size ≤ gb) (hlb : gb < w4.heap.size) (hnb : ∀ j, j < x.n → w4.cell? ⟨gb, j, none⟩ = some (.int .i64 (x.by_ j))) :
    ∃ C : IxLoc, Ending.returned (.pointer (some ⟨c, 0, none⟩)) = .returned (.pointer (some ⟨C.b, 0, none⟩)) ∧
      Fr No w ((w4.setCell ⟨c, 0, none⟩ (.slice (some ⟨ga, 0, none⟩) x.n ca)).setCell ⟨c, 1, none⟩ (.slice (some ⟨gb, 0, none⟩) x.n cb)) ∧
      IxMem ((w4.setCell ⟨c, 0, none⟩ (.slice (some ⟨ga, 0, none⟩) x.n ca)).setCell ⟨c, 1, none⟩ (.slice (some ⟨gb, 0, none⟩) x.n cb)) C x ∧ w.heap.size ≤ C.b ∧ w.heap.size ≤ C.br ∧ w.heap.size ≤ C.bb ∧ C.br ≠ C.b ∧ C.bb ≠ C.b := by
  have s1 := kF.size
  have s2 := hA.size
  have s3 := hB.size
  have hcl := kB.lt
  have hF4 : Fr No w w4 := (kF.trans hA).trans hB
  have hFc : Fr (One c) w4 ((w4.setCell ⟨c, 0, none⟩ (.slice (some ⟨ga, 0, none⟩) x.n ca)).setCell ⟨c, 1, none⟩ (.slice (some ⟨gb, 0, none⟩) x.n cb)) := ((Fr.refl _ _).set1 _ _).set1 _ _
  have hgn := H.gn.lt
  refine ⟨⟨c, ga, gb, ca, cb⟩, rfl, (hF4.setCell (p := ⟨c, 0, none⟩) (.inr (by show w.heap.size ≤ c; omega)) _).setCell (p := ⟨c, 1, none⟩) (.inr (by show w.heap.size ≤ c; omega)) _, ⟨H.ok, ?_, ?_, ?_, ?_, ?_, ?_, ?_⟩, by show w.heap.size ≤ c; omega, ?_, ?_, ?_, ?_⟩
  · refine ((((kB.fr hA (fun h => h)).fr hB (fun h => h)).setCell 0 _).setCell 1 _).congr fun i hi => ?_
    unfold upd Ix.V
    by_cases e1 : i = 1
    · subst e1; rfl
    · by_cases e0 : i = 0
      · subst e0; rfl
      · simp [e0, e1]
  · show Nums _ ga x.n x.rk
    exact Nums.of_fr (fun j hj => hB.cell_some (hna j hj) (fun h => h)) hFc (by omega) (by show ¬ ga = c; omega)
  · show Nums _ gb x.n x.by_
    exact Nums.of_fr hnb hFc (by omega) (by show ¬ gb = c; omega)
  · exact ⟨by simp; omega, by show ga ≠ c; omega⟩
  · exact ⟨by simp; omega, by show gb ≠ c; omega⟩
  · exact (H.gn.fr hF4 (fun h => h)).fr hFc (by show ¬ _ = c; omega)
  · exact ⟨by show c ≠ 0; omega, by show ga ≠ 0; omega, by show gb ≠ 0; omega⟩
  · show w.heap.size ≤ ga; omega
  · show w.heap.size ≤ gb; omega
  · show ga ≠ c; omega
  · show gb ≠ c; omega

end Go.Proofs.YtakgjihhgpnnfaaDoor
