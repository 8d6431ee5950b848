/- ringroadref10.All: how far it is from each vertex to each other one, as the document says; walked. -/
import Derived.Test.YtpkocidcfnlbiaaDoorRBt
import Derived.Test.YtpkocidcfnlbiaaDoorCl
import Derived.Laws.Rows
set_option linter.unusedVariables false
set_option linter.unusedSimpArgs false
namespace Go.Proofs.YtpkocidcfnlbiaaDoor
open Go.RowKit Go.Deep

/-- What is filled so far. -/
def fillN (s t : Nat) : Mat := fun i j => if i < s then (if i = j then 0 else 4611686018427387906) else if i = s ∧ j < t then 4611686018427387906 else 0
theorem fillN_set (s t : Nat) : upd2 (fillN s t) s t 4611686018427387906 = fillN s (t + 1) := by
  funext i j
  unfold upd2 fillN
  by_cases e : i = s ∧ j = t
  · obtain ⟨rfl, rfl⟩ := e
    rw [if_pos ⟨rfl, rfl⟩, if_neg (by omega), if_pos ⟨rfl, by omega⟩]
  · rw [if_neg e]
    by_cases h : i < s
    · rw [if_pos h, if_pos h]
    · rw [if_neg h, if_neg h]
      by_cases h2 : i = s ∧ j < t
      · rw [if_pos h2, if_pos (by omega)]
      · rw [if_neg h2, if_neg (by omega)]
theorem fillN_row (s : Nat) (i j : Nat) (hj : j < 24) : upd2 (fillN s 24) s s 0 i j = fillN (s + 1) 0 i j := by
  unfold upd2 fillN
  by_cases e : i = s ∧ j = s
  · obtain ⟨rfl, rfl⟩ := e
    rw [if_pos ⟨rfl, rfl⟩, if_pos (by omega), if_pos rfl]
  · rw [if_neg e]
    by_cases h : i < s
    · have h' : i < s + 1 := by omega
      rw [if_pos h, if_pos h']
    · rw [if_neg h]
      by_cases h2 : i = s
      · have h' : i < s + 1 := by omega
        have h3 : ¬ i = j := by omega
        rw [if_pos ⟨h2, hj⟩, if_pos h', if_neg h3]
      · have h' : ¬ i < s + 1 := by omega
        have h3 : ¬ (i = s ∧ j < 24) := fun h => h2 h.1
        have h4 : ¬ (i = s + 1 ∧ j < 0) := by omega
        rw [if_neg h3, if_neg h', if_neg h4]
/-- Behind some arcs. -/
def arcD (G : Gr) (k : Nat) : Mat := fun a b => if a = b then 0 else (((sel G.tk).take k).foldl (rstep G.arc (a : Nat) (b : Nat)) (4611686018427387906, -1)).1
theorem arcD_0 (G : Gr) (i j : Nat) (hi : i < 24) : fillN 24 0 i j = arcD G 0 i j := by
  unfold fillN arcD
  rw [if_pos hi]; rfl
theorem arcD_all (G : Gr) (i j : Nat) : arcD G (sel G.tk).length i j = G.d0 i j := by
  unfold arcD Gr.d0 Gr.bst Gr.best
  rw [List.take_length]
theorem arcD_step (G : Gr) (hw : G.Wt) {k : Nat} (hk : k < (sel G.tk).length) {z t h : Nat} (hz : (sel G.tk).getD k 0 = (z : Nat)) (ht : (G.arc z).t = (t : Nat)) (hh : (G.arc z).h = (h : Nat)) :
    arcD G (k + 1) = if (G.arc z).c = false ∧ (G.arc z).w < arcD G k t h then upd2 (arcD G k) t h (G.arc z).w else arcD G k := by
  have hmem : (sel G.tk).getD k 0 ∈ sel G.tk := by rw [List.getD, List.getElem?_eq_getElem hk]; exact List.getElem_mem hk
  obtain ⟨i, hi, htk, hzi⟩ := (sel_mem _ _).1 hmem
  obtain rfl : z = i := by omega
  have hwz := hw z hi htk
  have hst : ∀ a b : Nat, ((sel G.tk).take (k + 1)).foldl (rstep G.arc (a : Nat) (b : Nat)) (4611686018427387906, -1) = rstep G.arc (a : Nat) (b : Nat) (((sel G.tk).take k).foldl (rstep G.arc (a : Nat) (b : Nat)) (4611686018427387906, -1)) (z : Nat) := fun a b => by
    rw [List.take_succ_eq_append_getElem hk, List.foldl_append, ← hz, List.getD, List.getElem?_eq_getElem hk]; rfl
  funext a b
  have e1 : arcD G (k + 1) a b = if a = b then 0 else (rstep G.arc (a : Nat) (b : Nat) (((sel G.tk).take k).foldl (rstep G.arc (a : Nat) (b : Nat)) (4611686018427387906, -1)) (z : Nat)).1 := by
    unfold arcD; rw [hst]
  rw [e1]
  have e2 : arcD G k a b = if a = b then 0 else (((sel G.tk).take k).foldl (rstep G.arc (a : Nat) (b : Nat)) (4611686018427387906, -1)).1 := rfl
  by_cases hab : a = b
  · subst hab
    rw [if_pos rfl]
    rw [if_pos rfl] at e2
    split
    · next hc =>
      unfold upd2
      split
      · next h3 =>
        obtain ⟨rfl, rfl⟩ := h3
        rw [e2] at hc; omega
      · exact e2.symm
    · exact e2.symm
  · rw [if_neg hab]
    rw [if_neg hab] at e2
    obtain ⟨acc, hacc⟩ : ∃ acc, ((sel G.tk).take k).foldl (rstep G.arc (a : Nat) (b : Nat)) (4611686018427387906, -1) = acc := ⟨_, rfl⟩
    rw [hacc] at e2 ⊢
    unfold rstep
    rw [Int.toNat_natCast, ht, hh, ← e2]
    by_cases h3 : a = t ∧ b = h
    · obtain ⟨rfl, rfl⟩ := h3
      by_cases hc : (G.arc z).c = false ∧ (G.arc z).w < arcD G k a b
      · rw [if_pos ⟨rfl, rfl, hc⟩, if_pos hc]
        unfold upd2; rw [if_pos ⟨rfl, rfl⟩]
      · rw [if_neg (fun hh => hc hh.2.2), if_neg hc]; exact e2.symm
    · rw [if_neg (fun hh => h3 ⟨by omega, by omega⟩)]
      split
      · unfold upd2; rw [if_neg h3]; exact e2.symm
      · exact e2.symm

/-- A square as one value. -/
def sqV (D : Mat) : Array Value := ((List.range 576).map fun k => Value.int .i64 (D (k / 24) (k % 24))).toArray
theorem sqV_size (D : Mat) : (sqV D).size = 576 := by simp [sqV]
theorem sqV_get (D : Mat) {i j : Nat} (hi : i < 24) (hj : j < 24) : (sqV D)[i * 24 + j]? = some (.int .i64 (D i j)) := by
  unfold sqV
  rw [List.getElem?_toArray, List.getElem?_map, List.getElem?_range (by omega), Option.map_some, show (i * 24 + j) / 24 = i by omega, show (i * 24 + j) % 24 = j by omega]
theorem sqV_one (D : Mat) : (sqV D).all (·.oneCell') = true := by
  rw [Array.all_eq_true_iff_forall_mem]
  intro v hv
  unfold sqV at hv
  simp only [List.mem_toArray, List.mem_map] at hv
  obtain ⟨k, _, rfl⟩ := hv
  rfl
def AllR (w : World) (G : Gr) (e : Ending) (w' : World) : Prop := e = .returned (.agg (sqV G.far)) ∧ Fr No w w'

end Go.Proofs.YtpkocidcfnlbiaaDoor
