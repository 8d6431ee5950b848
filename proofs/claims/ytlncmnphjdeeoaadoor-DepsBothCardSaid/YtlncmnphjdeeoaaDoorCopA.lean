/- A copy of an index; walked. -/
import Derived.Test.YtlncmnphjdeeoaaDoorCop
set_option linter.unusedVariables false
set_option linter.unusedSimpArgs false
namespace Go.Proofs.YtlncmnphjdeeoaaDoor
open Go.RowKit Go.Deep

theorem Blk.setCells {b n : Nat} {T : TypeId} : ∀ (vs : List Value) (o : Nat) (w : World) (V : Nat → Value), Blk w b n T V →
    Blk (w.setCells b o vs) b n T (fun i => if o ≤ i ∧ i < o + vs.length then vs.getD (i - o) undef else V i)
  | [], o, w, V, h => h.congr fun i _ => by simp; intro h1 h2; omega
  | v :: r, o, w, V, h => by
    rw [World.setCells]
    refine (Blk.setCells r (o + 1) _ _ (h.setCell o v)).congr fun i _ => ?_
    simp only [upd, List.length_cons]
    by_cases e : i = o
    · subst e
      rw [if_neg (by omega), if_pos rfl, if_pos (by omega)]
      simp
    · rw [if_neg e]
      by_cases e2 : o + 1 ≤ i ∧ i < o + 1 + r.length
      · rw [if_pos e2, if_pos (by omega), show i - o = (i - (o + 1)) + 1 by omega]
        simp
      · rw [if_neg e2, if_neg (by omega)]

theorem Fr.setCellsL {F : Nat → Prop} {a : World} {b : Nat} (hb : F b ∨ a.heap.size ≤ b) : ∀ (vs : List Value) (o : Nat) (w : World), Fr F a w → Fr F a (w.setCells b o vs)
  | [], _, _, h => h
  | v :: r, o, w, h => by rw [World.setCells]; exact Fr.setCellsL hb r (o + 1) _ (h.setCell (p := ⟨b, o, none⟩) hb v)

def cellsV (x : Ix) (L : IxLoc) : List Value := (List.range 3458).map (x.V L)
theorem cellsV_len (x : Ix) (L : IxLoc) : (cellsV x L).length = 3458 := by simp [cellsV]
theorem IxMem.rangeV {w : World} {L : IxLoc} {x : Ix} (h : IxMem w L x) : w.rangeAt L.b 0 (cellsV x L) := fun j v hv => by
  rcases Nat.lt_or_ge j 3458 with hj | hj
  · simp only [cellsV, List.getElem?_map, List.getElem?_range hj, Option.map_some, Option.some.injEq] at hv
    subst hv
    rw [Nat.zero_add, h.blk.cell hj]
  · rw [List.getElem?_eq_none (by simpa [cellsV] using hj)] at hv; cases hv

theorem cellsV_one (x : Ix) (L : IxLoc) : (cellsV x L).toArray.all (·.oneCell') = true := all_oneCell_toArray fun v hv => by
  simp only [cellsV, List.mem_map] at hv
  obtain ⟨i, _, rfl⟩ := hv
  unfold Ix.V
  split
  · rfl
  · split <;> rfl

theorem Blk.cellsV {w : World} {b : Nat} {T : TypeId} {V : Nat → Value} (h : Blk w b 3458 T V) (x : Ix) (L : IxLoc) : Blk (w.setCells b 0 (cellsV x L)) b 3458 T (x.V L) :=
  (Blk.setCells _ 0 w V h).congr fun i hi => by
    rw [cellsV_len, if_pos (by omega)]
    simp [Go.Proofs.YtlncmnphjdeeoaaDoor.cellsV, List.getD, hi]

theorem Blk.there {w : World} {b n : Nat} {T : TypeId} {V : Nat → Value} (h : Blk w b n T V) : w.there b 0 n := fun j hj =>
  ⟨by rw [Nat.zero_add, h.cell hj]; rfl, h.frozen _⟩

theorem zeroBlk (w : World) : ∃ V, Blk (w.alloc (.cells Tryd.zeroCells117 117)) w.heap.size 3458 117 V :=
  ⟨fun i => Tryd.zeroCells117.getD i undef, _, heap_new _ _, by simp [Tryd.zeroCells117_size], fun i hi => by
    simp [hi, Tryd.zeroCells117_size]⟩

theorem copy_end {w W2 w3 w4 : World} {L : IxLoc} {x : Ix} {c ga ca gb cb : Nat} (hc : w.heap.size = c) (H : IxMem w L x) (HX : IxMem W2 L x) (kB : Blk W2 c 3458 117 (x.V L)) (kF : Fr No w W2) (hA : Fr No W2 w3)
    (hga : W2.heap.size ≤ ga) (hla : ga < w3.heap.size) (hna : ∀ j, j < x.n → w3.cell? ⟨ga, j, none⟩ = some (.int .i64 (x.rk j)))
    (hB : Fr No w3 w4) (hgb : w3.heap.size ≤ gb) (hlb : gb < w4.heap.size) (hnb : ∀ j, j < x.n → w4.cell? ⟨gb, j, none⟩ = some (.int .i64 (x.by_ j))) :
    ∃ C : IxLoc, Ending.returned (.pointer (some ⟨c, 0, none⟩)) = .returned (.pointer (some ⟨C.b, 0, none⟩)) ∧
      Fr No w ((w4.setCell ⟨c, 0, none⟩ (.slice (some ⟨ga, 0, none⟩) x.n ca)).setCell ⟨c, 1, none⟩ (.slice (some ⟨gb, 0, none⟩) x.n cb)) ∧
      IxMem ((w4.setCell ⟨c, 0, none⟩ (.slice (some ⟨ga, 0, none⟩) x.n ca)).setCell ⟨c, 1, none⟩ (.slice (some ⟨gb, 0, none⟩) x.n cb)) C x ∧ w.heap.size ≤ C.b ∧ w.heap.size ≤ C.br ∧ w.heap.size ≤ C.bb ∧ C.br ≠ C.b ∧ C.bb ≠ C.b := by
  have s1 := kF.size
  have s2 := hA.size
  have s3 := hB.size
  have hcl := kB.lt
  have hF4 : Fr No w w4 := (kF.trans hA).trans hB
  have hFc : Fr (One c) w4 ((w4.setCell ⟨c, 0, none⟩ (.slice (some ⟨ga, 0, none⟩) x.n ca)).setCell ⟨c, 1, none⟩ (.slice (some ⟨gb, 0, none⟩) x.n cb)) := ((Fr.refl _ _).set1 _ _).set1 _ _
  have hgn := H.gn.lt
  refine ⟨⟨c, ga, gb, ca, cb⟩, rfl, (hF4.setCell (p := ⟨c, 0, none⟩) (.inr (by show w.heap.size ≤ c; omega)) _).setCell (p := ⟨c, 1, none⟩) (.inr (by show w.heap.size ≤ c; omega)) _, ⟨H.ok, ?_, ?_, ?_, ?_, ?_, ?_, ?_⟩, by show w.heap.size ≤ c; omega, ?_, ?_, ?_, ?_⟩
  · refine ((((kB.fr hA (fun h => h)).fr hB (fun h => h)).setCell 0 _).setCell 1 _).congr fun i hi => ?_
    unfold upd Ix.V
    by_cases e1 : i = 1
    · subst e1; rfl
    · by_cases e0 : i = 0
      · subst e0; rfl
      · simp [e0, e1]
  · show Nums _ ga x.n x.rk
    exact Nums.of_fr (fun j hj => hB.cell_some (hna j hj) (fun h => h)) hFc (by omega) (by show ¬ ga = c; omega)
  · show Nums _ gb x.n x.by_
    exact Nums.of_fr hnb hFc (by omega) (by show ¬ gb = c; omega)
  · exact ⟨by simp; omega, by show ga ≠ c; omega⟩
  · exact ⟨by simp; omega, by show gb ≠ c; omega⟩
  · exact (H.gn.fr hF4 (fun h => h)).fr hFc (by show ¬ _ = c; omega)
  · exact ⟨by show c ≠ 0; omega, by show ga ≠ 0; omega, by show gb ≠ 0; omega⟩
  · show w.heap.size ≤ ga; omega
  · show w.heap.size ≤ gb; omega
  · show ga ≠ c; omega
  · show gb ≠ c; omega

set_option maxRecDepth 100000 in
set_option maxHeartbeats 2000000 in
theorem copy_calls {w : World} {L : IxLoc} {x : Ix} (h : IxMem w L x) :
    Calls Tryd.prog 39 #[.pointer (some ⟨L.b, 0, none⟩)] w fun e w' => ∃ C : IxLoc, e = .returned (.pointer (some ⟨C.b, 0, none⟩)) ∧ Fr No w w' ∧ IxMem w' C x ∧ w.heap.size ≤ C.b ∧ w.heap.size ≤ C.br ∧ w.heap.size ≤ C.bb ∧ C.br ≠ C.b ∧ C.bb ≠ C.b := by
  have hd : Tryd.prog.underlying 117 = some _ := Tryd.underlying117
  have hi : (Tryd.prog.info? 117).map (·.size) = some 3458 := by kernel_rfl
  have hrg := hid h.rangeV
  have hlen := cellsV_len x L
  obtain ⟨X, hX⟩ : ∃ X, cellsV x L = X := ⟨_, rfl⟩
  have hone := hid (cellsV_one x L)
  have hbx : Hid (∀ (w : World) (b : Nat) (T : TypeId) (V : Nat → Value), Blk w b 3458 T V → Blk (w.setCells b 0 (cellsV x L)) b 3458 T (x.V L)) := hid (fun w b T V h => h.cellsV x L)
  rw [hX] at hlen hrg hone hbx
  clear hX
  have H := hid h
  clear h
  go_enter Tryd.func39, Tryd.ntmps39
  go_wp2_with (first
   | (refine wpList_load_mid rfl 117 (.tmp 5) rfl L.b 0 rfl X _ hrg.out hd rfl (by rw [hi, hlen]) ?_)
   | (refine wpList_store_mid rfl 117 (.tmp 3) (.tmp 6) rfl w.heap.size 0 X.toArray rfl rfl (by obtain ⟨V, hV⟩ := zeroBlk w; have := hV.there; simpa [hlen] using this) (by rw [hi]; simp [hlen]) hone.out ?_; simp only [List.toList_toArray]))
  have kB : Blk ((w.alloc (.cells Tryd.zeroCells117 117)).setCells w.heap.size 0 X) w.heap.size 3458 117 (x.V L) := by
    obtain ⟨V, hV⟩ := zeroBlk w
    exact hbx.out _ _ _ _ hV
  have kF : Fr No w ((w.alloc (.cells Tryd.zeroCells117 117)).setCells w.heap.size 0 X) := Fr.setCellsL (.inr (Nat.le_refl _)) _ _ _ ((Fr.refl _ _).alloc _)
  generalize ((w.alloc (.cells Tryd.zeroCells117 117)).setCells w.heap.size 0 X) = W2 at kB kF ⊢
  generalize hc : w.heap.size = c at kB ⊢
  have kB2 := hid kB
  have kF2 := hid kF
  have hx := H.out.no kF
  have k0 := hx.c0
  have k1 := hx.c1
  have kb0 : W2.cell? ⟨c, 0, none⟩ = some _ := kB.cell (i := 0) (by omega)
  have kb1 : W2.cell? ⟨c, 1, none⟩ = some _ := kB.cell (i := 1) (by omega)
  have kfz := fun i => kB.frozen i
  have kcl := kB.lt
  have kbl := hx.lt
  have klc : L.b < c := by rw [← hc]; exact H.out.lt
  have hn2 := hx.ok.n2
  have hn1 := hx.ok.n1
  have HX := hid hx
  clear kB kF hx hrg hone hbx hd hi hlen
  simp only [Act.put]
  go_region_with (first
    | (go_at_call 69
       refine (clone_calls L.br 0 x.n L.cr (fun j => x.rk j) _ ?clp hn1 (by omega)).mono ?_
       (case clp => intro j hj; rw [Nat.zero_add]; first | exact HX.out.rk j hj | exact (HX.out.drewN _).rk j hj | exact HX.out.drew.rk j hj)
       rintro e w3 ⟨ga, ca, rfl, hfa, hga, hla, hna⟩
       have k0 := hfa.cell_some (p := ⟨L.b, 0, none⟩) k0 (fun h => h)
       have k1 := hfa.cell_some (p := ⟨L.b, 1, none⟩) k1 (fun h => h)
       obtain ⟨HFA, HNA⟩ := And.intro (hid hfa) (hid hna)
       clear hfa hna)
    | (go_at_call 69
       refine (clone_calls L.bb 0 x.n L.cb (fun j => x.by_ j) _ ?clp hn1 (by omega)).mono ?_
       (case clp => intro j hj; rw [Nat.zero_add]; first | exact ((HX.out.drewN _).no HFA.out).by_ j hj | exact (((HX.out.drewN _).no HFA.out).drewN _).by_ j hj)
       rintro e w4 ⟨gb, cb, rfl, hfb, hgb, hlb, hnb⟩
       obtain ⟨HFB, HNB⟩ := And.intro (hid hfb) (hid hnb)
       have kb := kB2.out.fr (((Fr.of_drewN _).trans HFA.out).trans hfb) (fun h => h)
       have kb0 : w4.cell? ⟨c, 0, none⟩ = some _ := kb.cell (i := 0) (by omega)
       have kb1 : w4.cell? ⟨c, 1, none⟩ = some _ := kb.cell (i := 1) (by omega)
       have kfz := fun i => kb.frozen i
       have KB := hid kb
       clear hfb hnb kb))
  all_goals
    have hA : Fr No W2 w3 := ((Fr.refl No W2).drewN _).trans HFA.out
    clear HFA k0 k1 kb0 kb1 kfz
    have HA := hid hA
    clear hA
    go_wp2
    go_ret
    exact copy_end (ca := ca) (cb := cb) hc H.out HX.out kB2.out kF2.out HA.out hga hla HNA.out HFB.out hgb hlb HNB.out

end Go.Proofs.YtlncmnphjdeeoaaDoor
