/- A graph's arcs out of a vertex, as a range over a function goes through them. -/
import Derived.Test.YtlncmnphjdeeoaaDoorItr
import Derived.Test.YtlncmnphjdeeoaaDoorIdxA
set_option linter.unusedVariables false
set_option linter.unusedSimpArgs false
namespace Go.Proofs.YtlncmnphjdeeoaaDoor
open Go.RowKit Go.Shelf

attribute [local go_sem] Oper.semAt_some

theorem fr_grownBy {W W' : World} (h : Fr No W W') : W.grownBy W' none := ⟨h.os, h.tape, h.output, h.size, fun k hk _ => h.block k hk (fun h => h)⟩

set_option maxRecDepth 100000 in
set_option maxHeartbeats 1000000 in
theorem vertex_calls {w : World} {b nv cv : Nat} {A : Option Addr} (v : Int) (ha : w.cell? ⟨b, 320, none⟩ = some (.slice A nv cv)) (hnv : nv ≤ 1000) :
    Calls Tryd.prog 119 #[.pointer (some ⟨b, 0, none⟩), .int .i64 v] w fun e w' => e = .returned (.bool (decide (0 ≤ v ∧ v < nv))) ∧ Fr No w w' := by
  by_cases h1 : 0 ≤ v
  · by_cases h2 : v < nv
    · go_enter Tryd.func119, Tryd.ntmps119
      go_wp2
      go_ret
      exact ⟨by simp [h1, h2], Fr.refl _ _⟩
    · go_enter Tryd.func119, Tryd.ntmps119
      go_wp2
      go_ret
      exact ⟨by simp [h1, h2], Fr.refl _ _⟩
  · go_enter Tryd.func119, Tryd.ntmps119
    go_wp2
    go_ret
    exact ⟨by simp; omega, Fr.refl _ _⟩

theorem values_calls (a : Option Addr) (len cap : Nat) (w : World) :
    Calls Tryd.prog 132 #[.slice a len cap] w fun e w' => e = .returned (.func (.func 137) #[] #[.pointer (some ⟨w.heap.size, 0, none⟩)]) ∧ w' = w.alloc (.cells #[.slice a len cap] 29) :=
  callsIn_wide.1 (Itr.values_in Fence.wide 5 trivial rfl a len cap w)

set_option maxRecDepth 100000 in
set_option maxHeartbeats 4000000 in
/-- The closure of 'Out': no vertex. -/
theorem out1_no (n : Nat) (hn : 1 ≤ n) (Bg Bv b nv cv : Nat) (A : Option Addr) (v : Int) (n₀ : Nat) (w : World) (hg : w.cell? ⟨Bg, 0, none⟩ = some (.pointer (some ⟨b, 0, none⟩))) (hv : w.cell? ⟨Bv, 0, none⟩ = some (.int .i64 v))
    (ha : w.cell? ⟨b, 320, none⟩ = some (.slice A nv cv)) (hnv : nv ≤ 1000) (h : decide (0 ≤ v ∧ v < nv) = false) (hl : Bg < w.heap.size ∧ Bv < w.heap.size ∧ b < w.heap.size) :
    SeqStopsK Fence.wide n Tryd.prog 131 #[.pointer (some ⟨Bg, 0, none⟩), .pointer (some ⟨Bv, 0, none⟩)] (fun x : Id64 => #[Value.int .i64 x.1]) (Below n₀) (fun ys => ys = []) (fun pre => pre <+: []) 0 w := fun l J Jx W hW hJ hJx hY h0 => by
  have hg' := (hW.cell (p := ⟨Bg, 0, none⟩) hl.1).trans hg
  have hv' := (hW.cell (p := ⟨Bv, 0, none⟩) hl.2.1).trans hv
  have ha' := (hW.cell (p := ⟨b, 320, none⟩) hl.2.2).trans ha
  have HA := hid ha'
  have HJ := hid hJ
  have H0 := hid h0
  have H := hid h
  clear hg hv ha ha' hY hJ hJx h0 h hW
  refine callsIn_of_wp Tryd.func131 rfl trivial ?_ rfl
  simp only [Tryd.ntmps131, List.size_toArray, List.length_cons, List.length_nil, Nat.reduceAdd, Nat.reduceSub, Array.replicate_succ, Array.replicate_zero, List.push_toArray, List.append_toArray, List.nil_append, List.cons_append]
  gi_wp2
  refine ⟨trivial, callsIn_wide.2 ((vertex_calls v HA.out hnv).mono ?_)⟩
  rintro e w1 ⟨rfl, hf⟩
  rw [H.out]
  have HF := hid hf
  clear hf
  gi_wp2
  go_end0
  exact ⟨⟨_, rfl⟩, .inl ⟨_, rfl, HJ.out _ _ _ none H0.out (fr_grownBy HF.out) (fun r h => by cases h)⟩⟩

set_option maxRecDepth 100000 in
set_option maxHeartbeats 4000000 in
/-- The closure of 'Out': a vertex. -/
theorem out1_yes (n : Nat) (hn : 1 ≤ n) (Bg Bv b nv cv ba k n₀ cap : Nat) (S : Option Addr) (zs : List Id64) (w : World) (hg : w.cell? ⟨Bg, 0, none⟩ = some (.pointer (some ⟨b, 0, none⟩))) (hv : w.cell? ⟨Bv, 0, none⟩ = some (.int .i64 (k : Nat)))
    (ha : w.cell? ⟨b, 320, none⟩ = some (.slice (some ⟨ba, 0, none⟩) nv cv)) (hnv : nv ≤ 1000) (hk : k < nv) (hs : w.cell? ⟨ba, k * 2, none⟩ = some (.slice S zs.length cap)) (hl : Bg < w.heap.size ∧ Bv < w.heap.size ∧ b < w.heap.size ∧ ba < w.heap.size)
    (hn₀ : n₀ ≤ w.heap.size) (hI : Itr.Ints n₀ w (.slice S zs.length cap) zs) (hz : zs.length ≤ 1000) :
    SeqStopsK Fence.wide n Tryd.prog 131 #[.pointer (some ⟨Bg, 0, none⟩), .pointer (some ⟨Bv, 0, none⟩)] (fun x : Id64 => #[Value.int .i64 x.1]) (Below n₀) (fun ys => ys = zs) (fun pre => pre <+: zs) zs.length w := fun l J Jx W hW hJ hJx hY h0 => by
  have hg' := (hW.cell (p := ⟨Bg, 0, none⟩) hl.1).trans hg
  have hv' := (hW.cell (p := ⟨Bv, 0, none⟩) hl.2.1).trans hv
  have ha' := (hW.cell (p := ⟨b, 320, none⟩) hl.2.2.1).trans ha
  have hs' := (hW.cell (p := ⟨ba, k * 2, none⟩) hl.2.2.2).trans hs
  have HI := hid (Itr.Ints.below (hW.mono hn₀) hI)
  have hsz : n₀ ≤ W.heap.size := Nat.le_trans hn₀ hW.size
  have HL := hid (And.intro (Nat.lt_of_lt_of_le hl.1 hW.size) (And.intro (Nat.lt_of_lt_of_le hl.2.1 hW.size) (And.intro (Nat.lt_of_lt_of_le hl.2.2.1 hW.size) (Nat.lt_of_lt_of_le hl.2.2.2 hW.size))))
  have HA := hid ha'
  have HG := hid hg'
  have HV := hid hv'
  have HS := hid hs'
  have HJ := hid hJ
  have HJX := hid hJx
  have HY := hid hY
  have H0 := hid h0
  have hd : decide ((0 : Int) ≤ (k : Nat) ∧ ((k : Nat) : Int) < nv) = true := by simp; omega
  have HD := hid hd
  clear hg hv ha hs ha' hs' hY hJ hJx h0 hW hI hd hl
  refine callsIn_of_wp Tryd.func131 rfl trivial ?_ rfl
  simp only [Tryd.ntmps131, List.size_toArray, List.length_cons, List.length_nil, Nat.reduceAdd, Nat.reduceSub, Array.replicate_succ, Array.replicate_zero, List.push_toArray, List.append_toArray, List.nil_append, List.cons_append]
  gi_wp2
  clear hg' hv'
  refine ⟨trivial, callsIn_wide.2 ((vertex_calls _ HA.out hnv).mono ?_)⟩
  rintro e w1 ⟨rfl, hf⟩
  rw [HD.out]
  have hg1 := hf.cell_some HG.out (fun h => h)
  have hv1 := hf.cell_some HV.out (fun h => h)
  have ha1 := hf.cell_some HA.out (fun h => h)
  have hs1 := hf.cell_some HS.out (fun h => h)
  have HF := hid hf
  have hk2 : ((k : Nat) : Int) < nv := by omega
  clear hf
  have f2 : Fr No W (w1.alloc (Obj.cells #[Value.slice S zs.length cap] 29)).drew := (HF.out.alloc _).drew
  have C2 := hid (show (w1.alloc (Obj.cells #[Value.slice S zs.length cap] 29)).drew.cell? ⟨w1.heap.size, 0, none⟩ = some (.slice S zs.length cap) from
    (own_no (Fr.refl No _) w1.heap.size (heap_new w1 _)).1 0)
  have I2 := hid (Itr.Ints.below (f2.below.mono hsz) HI.out)
  have J2 := hid (show AbidesFrom (w1.alloc (Obj.cells #[Value.slice S zs.length cap] 29)).drew.heap.size J from
    fun s A B row h1 h2 h3 => HJ.out s A B row h1 h2 (fun r e => ⟨Nat.le_trans f2.size (h3 r e).1, (h3 r e).2⟩))
  have JX2 := hid (show AbidesFrom (w1.alloc (Obj.cells #[Value.slice S zs.length cap] 29)).drew.heap.size Jx from
    fun s A B row h1 h2 h3 => HJX.out s A B row h1 h2 (fun r e => ⟨Nat.le_trans f2.size (h3 r e).1, (h3 r e).2⟩))
  have H2 := hid (HJ.out _ _ _ none H0.out (fr_grownBy f2) (fun r h => by cases h))
  have S2 := hid (show n₀ ≤ (w1.alloc (Obj.cells #[Value.slice S zs.length cap] 29)).drew.heap.size from Nat.le_trans hsz f2.size)
  have Z2 := hid (show w1.heap.size < (w1.alloc (Obj.cells #[Value.slice S zs.length cap] 29)).drew.heap.size from (own_no (Fr.refl No _) w1.heap.size (heap_new w1 _)).2.2.1)
  clear f2
  gi_wp2_with fail
  gi_region_with (first
    | (refine ⟨trivial, ?_⟩; gi_at_call 132; refine callsIn_wide.2 ((values_calls _ _ _ _).mono ?_); rintro e w2 ⟨rfl, rfl⟩)
    | (refine ⟨trivial, ?_⟩; gi_at_call 137; refine callsIn_wide.2 (callsIn_wide.1 ((Itr.values_stops Fence.wide n trivial rfl hn w1.heap.size n₀ (.slice S zs.length cap) zs (by omega) (w1.alloc (Obj.cells #[Value.slice S zs.length cap] 29)).drew Z2.out S2.out C2.out I2.out l J Jx _ (Below.refl _ _) J2.out JX2.out HY.out H2.out).mono ?_)); rintro e w3 ⟨⟨v, rfl⟩, hres⟩))
  all_goals gi_wp2
  all_goals go_end0
  all_goals exact ⟨⟨_, rfl⟩, hres⟩

end Go.Proofs.YtlncmnphjdeeoaaDoor
