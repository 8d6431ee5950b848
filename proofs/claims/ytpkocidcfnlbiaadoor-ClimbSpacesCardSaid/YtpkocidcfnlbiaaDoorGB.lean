/- The document's graph in memory; its functions, walked. -/
import Derived.Test.YtpkocidcfnlbiaaDoorGOps
import Derived.Test.YtpkocidcfnlbiaaDoorMid
import Derived.BigRegion
set_option linter.unusedVariables false
set_option linter.unusedSimpArgs false
namespace Go.Proofs.YtpkocidcfnlbiaaDoor
open Go.RowKit Go.Deep

def Gr.rcell (G : Gr) (i : Nat) : Value :=
  if i = 0 then .int .i64 (G.n : Nat) else if i = 1 then .int .i64 (G.most : Nat) else if i < 66 then .bool (G.tk (i - 2))
  else G.slot ((i - 66) / 4) ((i - 66) % 4)
theorem selA_succ (p : Nat → Bool) (k : Nat) : selA p (k + 1) = if p k = true then selA p k ++ [(k : Int)] else selA p k := by
  unfold selA
  rw [List.range_succ, List.filter_append, List.map_append]
  by_cases e : p k = true
  · rw [if_pos e, List.filter_cons_of_pos e]; rfl
  · rw [if_neg e, List.filter_cons_of_neg e]; simp
theorem selA_len (p : Nat → Bool) (k : Nat) : (selA p k).length ≤ k := by
  unfold selA
  rw [List.length_map]
  have := List.length_filter_le p (List.range k)
  simpa using this

def Gr.set (G : Gr) (k : Nat) (a : Arc4) (v : Bool) : Gr := ⟨G.n, G.most, fun i => if i = k then a else G.arc i, fun i => if i = k then v else G.tk i⟩
theorem Gr.rcell_tk (G : Gr) (k : Nat) (hk : k < 64) : G.rcell (2 + k) = .bool (G.tk k) := by
  unfold Gr.rcell
  rw [if_neg (by omega), if_neg (by omega), if_pos (by omega), show 2 + k - 2 = k by omega]
theorem Gr.rcell_arc (G : Gr) (k c : Nat) (hc : c < 4) : G.rcell (66 + k * 4 + c) = G.slot k c := by
  unfold Gr.rcell
  rw [if_neg (by omega), if_neg (by omega), if_neg (by omega), show (66 + k * 4 + c - 66) / 4 = k by omega, show (66 + k * 4 + c - 66) % 4 = c by omega]
theorem Gr.slot_set (G : Gr) (k j d : Nat) (a : Arc4) (v : Bool) (h : j ≠ k) : (G.set k a v).slot j d = G.slot j d := by
  unfold Gr.slot Gr.set
  simp only [h, if_false]
theorem upd_ne {V : Nat → Value} {p i : Nat} {v : Value} (h : i ≠ p) : upd V p v i = V i := if_neg h
theorem upd_eq {V : Nat → Value} {p i : Nat} {v : Value} (h : i = p) : upd V p v i = v := if_pos h
theorem Gr.rset_cell (G : Gr) (k : Nat) (hk : k < 64) (a : Arc4) (v : Bool) (i : Nat) :
    upd (upd (upd (upd (upd G.rcell (2 + k) (.bool v)) (66 + k * 4) (.int .i64 a.t)) (66 + k * 4 + 1) (.int .i64 a.h)) (66 + k * 4 + 2) (.int .i64 a.w)) (66 + k * 4 + 3) (.bool a.c) i = (G.set k a v).rcell i := by
  by_cases h66 : i < 66
  · rw [upd_ne (show i ≠ 66 + k * 4 + 3 by omega), upd_ne (show i ≠ 66 + k * 4 + 2 by omega), upd_ne (show i ≠ 66 + k * 4 + 1 by omega), upd_ne (show i ≠ 66 + k * 4 by omega)]
    by_cases h0 : i = 2 + k
    · rw [upd_eq h0, h0, Gr.rcell_tk _ k hk]
      exact congrArg Value.bool (if_pos rfl).symm
    · rw [upd_ne h0]
      by_cases h1 : i < 2
      · unfold Gr.rcell
        by_cases h2 : i = 0
        · rw [if_pos h2, if_pos h2]; rfl
        · rw [if_neg h2, if_neg h2, if_pos (show i = 1 by omega), if_pos (show i = 1 by omega)]; rfl
      · obtain ⟨j, rfl⟩ : ∃ j, i = 2 + j := ⟨i - 2, by omega⟩
        rw [Gr.rcell_tk _ j (by omega), Gr.rcell_tk _ j (by omega)]
        exact congrArg Value.bool (if_neg (show ¬ j = k by omega)).symm
  · obtain ⟨j, d, hd, rfl⟩ : ∃ j d, d < 4 ∧ i = 66 + j * 4 + d := ⟨(i - 66) / 4, (i - 66) % 4, Nat.mod_lt _ (by omega), by omega⟩
    rw [Gr.rcell_arc _ j d hd]
    by_cases e : j = k
    · subst e
      match d, hd with
      | 0, _ =>
        rw [upd_ne (by omega), upd_ne (by omega), upd_ne (by omega), upd_eq (by omega)]
        exact congrArg (fun z : Arc4 => Value.int .i64 z.t) (if_pos rfl).symm
      | 1, _ =>
        rw [upd_ne (by omega), upd_ne (by omega), upd_eq (by omega)]
        exact congrArg (fun z : Arc4 => Value.int .i64 z.h) (if_pos rfl).symm
      | 2, _ =>
        rw [upd_ne (by omega), upd_eq (by omega)]
        exact congrArg (fun z : Arc4 => Value.int .i64 z.w) (if_pos rfl).symm
      | 3, _ =>
        rw [upd_eq (by omega)]
        exact congrArg (fun z : Arc4 => Value.bool z.c) (if_pos rfl).symm
    · rw [Gr.slot_set _ _ _ _ _ _ e, upd_ne (by omega), upd_ne (by omega), upd_ne (by omega), upd_ne (by omega), upd_ne (by omega), Gr.rcell_arc _ j d hd]
theorem Gr.rone_cell (G : Gr) (k : Nat) (hk : k < 64) (c : Nat) (hc : c < 4) (v : Value) (G' : Gr) (h0 : G'.n = G.n) (h1 : G'.most = G.most) (h2 : G'.tk = G.tk) (h3 : ∀ j d, d < 4 → G'.slot j d = if j = k ∧ d = c then v else G.slot j d) (i : Nat) :
    upd G.rcell (66 + k * 4 + c) v i = G'.rcell i := by
  unfold upd Gr.rcell
  by_cases h66 : i < 66
  · rw [if_neg (by omega), h0, h1, h2, if_pos h66, if_pos h66]
  · rw [if_neg (show ¬ i = 0 by omega), if_neg (show ¬ i = 0 by omega), if_neg (show ¬ i = 1 by omega), if_neg (show ¬ i = 1 by omega), if_neg h66, if_neg h66, h3 _ _ (Nat.mod_lt _ (by omega))]
    by_cases e : i = 66 + k * 4 + c
    · rw [if_pos e, if_pos (by omega)]
    · rw [if_neg e, if_neg (by omega)]
theorem Gr.rshut_cell (G : Gr) (k : Nat) (hk : k < 64) (c : Bool) (i : Nat) : upd G.rcell (66 + k * 4 + 3) (.bool c) i = (G.shut k c).rcell i := by
  refine G.rone_cell k hk 3 (by omega) (.bool c) (G.shut k c) rfl rfl rfl (fun j d hd => ?_) i
  unfold Gr.slot Gr.shut
  by_cases e : j = k
  · subst e
    match d, hd with
    | 0, _ => simp
    | 1, _ => simp
    | 2, _ => simp
    | 3, _ => simp
  · simp [e]
theorem Gr.rwei_cell (G : Gr) (k : Nat) (hk : k < 64) (c : Int) (i : Nat) : upd G.rcell (66 + k * 4 + 2) (.int .i64 c) i = (G.wei k c).rcell i := by
  refine G.rone_cell k hk 2 (by omega) (.int .i64 c) (G.wei k c) rfl rfl rfl (fun j d hd => ?_) i
  unfold Gr.slot Gr.wei
  by_cases e : j = k
  · subst e
    match d, hd with
    | 0, _ => simp
    | 1, _ => simp
    | 2, _ => simp
    | 3, _ => simp
  · simp [e]

end Go.Proofs.YtpkocidcfnlbiaaDoor

/- Of the open arcs of a graph the least: the program's, of a graph in memory; the document's, walked; the right entry in general. -/
set_option linter.unusedVariables false
set_option linter.unusedSimpArgs false
namespace Go.Proofs.YtpkocidcfnlbiaaDoor
open Go.RowKit Go.Deep

def toId (i : Nat) : Id64 := if h : i < 64 then ⟨(i : Int), by omega⟩ else id0
theorem toId_val {i : Nat} (h : i < 64) : (toId i).1 = (i : Int) := by unfold toId; rw [dif_pos h]
/-- The places of which something holds, as numbers of places. -/
def selI (p : Nat → Bool) : List Id64 := ((List.range 64).filter p).map toId
theorem selI_val (p : Nat → Bool) : (selI p).map (fun z : Id64 => z.1) = sel p := by
  unfold selI sel
  rw [List.map_map]
  refine List.map_congr_left fun i hi => ?_
  exact toId_val (by simpa using (List.mem_filter.1 hi).1)
theorem selI_len (p : Nat → Bool) : (selI p).length = (sel p).length := by rw [← selI_val p, List.length_map]
theorem selI_get (p : Nat → Bool) (j : Nat) (hj : j < (sel p).length) : ((selI p)[j]?.getD id0).1 = (sel p).getD j 0 := by
  have hj' : j < (selI p).length := by rw [selI_len]; exact hj
  rw [← selI_val p, List.getD, List.getElem?_map, List.getElem?_eq_getElem hj']; rfl

def rstep (arc : Nat → Arc4) (u v : Int) (acc : Int × Int) (z : Int) : Int × Int :=
  if (arc z.toNat).t = u ∧ (arc z.toNat).h = v ∧ (arc z.toNat).c = false ∧ (arc z.toNat).w < acc.1 then ((arc z.toNat).w, z) else acc
/-- The least open arc from one vertex to another one: its weight, its place. -/
def Gr.best (G : Gr) (u v : Int) : Int × Int := (sel G.tk).foldl (rstep G.arc u v) (4611686018427387906, -1)
def Gr.outs (G : Gr) (u : Int) : Nat → Bool := fun i => G.tk i && decide ((G.arc i).t = u)
theorem best_aux (G : Gr) (u v : Int) : ∀ (l : List Nat), (∀ i ∈ l, i < 64) → ∀ acc, ((l.filter (G.outs u)).map toId).foldl (bestStep G.arc v) acc = ((l.filter G.tk).map (fun i : Nat => (i : Int))).foldl (rstep G.arc u v) acc := by
  intro l
  induction l with
  | nil => intro _ acc; rfl
  | cons i l ih =>
    intro hl acc
    have hi := hl i (by simp)
    have ih' := ih (fun j hj => hl j (by simp [hj]))
    have hbs : bestStep G.arc v acc (toId i) = if (G.arc i).h = v ∧ (G.arc i).c = false ∧ (G.arc i).w < acc.1 then ((G.arc i).w, (i : Int)) else acc := by
      unfold bestStep; rw [toId_val hi]; rfl
    have hrs : rstep G.arc u v acc (i : Nat) = if (G.arc i).t = u ∧ (G.arc i).h = v ∧ (G.arc i).c = false ∧ (G.arc i).w < acc.1 then ((G.arc i).w, (i : Int)) else acc := rfl
    cases htk : G.tk i with
    | false =>
      rw [List.filter_cons_of_neg (by simp [Gr.outs, htk]), List.filter_cons_of_neg (by simp [htk])]
      exact ih' acc
    | true =>
      by_cases ht : (G.arc i).t = u
      · rw [List.filter_cons_of_pos (by simp [Gr.outs, htk, ht]), List.filter_cons_of_pos htk, List.map_cons, List.map_cons, List.foldl_cons, List.foldl_cons, ih', hbs, hrs]
        congr 1
        by_cases hc : (G.arc i).h = v ∧ (G.arc i).c = false ∧ (G.arc i).w < acc.1
        · rw [if_pos hc, if_pos ⟨ht, hc⟩]
        · rw [if_neg hc, if_neg (fun h => hc h.2)]
      · rw [List.filter_cons_of_neg (by simp [Gr.outs, ht]), List.filter_cons_of_pos htk, List.map_cons, List.foldl_cons, ih', hrs, if_neg (fun h => ht h.1)]
theorem best_eq (G : Gr) (u v : Int) : bestOf G.arc v (selI (G.outs u)) = G.best u v := best_aux G u v (List.range 64) (fun i hi => by simpa using hi) _

theorem foldl_inv {α β : Type} (P : β → Prop) (f : β → α → β) : ∀ (l : List α), (∀ b, P b → ∀ a ∈ l, P (f b a)) → ∀ b, P b → P (l.foldl f b) := by
  intro l
  induction l with
  | nil => intro _ b hb; exact hb
  | cons a l ih => intro h b hb; exact ih (fun b hb c hc => h b hb c (by simp [hc])) _ (h b hb a (by simp))
/-- The least open arc is one, or there is none. -/
theorem Gr.best_is (G : Gr) (u v : Int) : G.best u v = (4611686018427387906, -1) ∨ ∃ k : Nat, k < 64 ∧ G.tk k = true ∧ (G.arc k).t = u ∧ (G.arc k).h = v ∧ (G.arc k).c = false ∧ (G.arc k).w < 4611686018427387906 ∧ G.best u v = ((G.arc k).w, (k : Int)) := by
  refine foldl_inv (fun acc => acc = (4611686018427387906, -1) ∨ ∃ k : Nat, k < 64 ∧ G.tk k = true ∧ (G.arc k).t = u ∧ (G.arc k).h = v ∧ (G.arc k).c = false ∧ (G.arc k).w < 4611686018427387906 ∧ acc = ((G.arc k).w, (k : Int))) (rstep G.arc u v) (sel G.tk) ?_ _ (.inl rfl)
  intro acc hacc z hz
  obtain ⟨k, hk, htk, rfl⟩ := (sel_mem _ _).1 hz
  unfold rstep
  by_cases hc : (G.arc ((k : Nat) : Int).toNat).t = u ∧ (G.arc ((k : Nat) : Int).toNat).h = v ∧ (G.arc ((k : Nat) : Int).toNat).c = false ∧ (G.arc ((k : Nat) : Int).toNat).w < acc.1
  · rw [if_pos hc]
    have hlt : acc.1 ≤ 4611686018427387906 := by
      rcases hacc with rfl | ⟨j, _, _, _, _, _, h, rfl⟩
      · exact Int.le_refl _
      · exact Int.le_of_lt h
    exact .inr ⟨k, hk, htk, hc.1, hc.2.1, hc.2.2.1, by have := hc.2.2.2; simp at this; omega, rfl⟩
  · rw [if_neg hc]; exact hacc
theorem Gr.best_le (G : Gr) (u v : Int) : (G.best u v).1 ≤ 4611686018427387906 := by
  rcases G.best_is u v with h | ⟨k, _, _, _, _, _, h1, h⟩
  · rw [h]; exact Int.le_refl _
  · rw [h]; exact Int.le_of_lt h1
theorem foldl_le (arc : Nat → Arc4) (u v : Int) : ∀ (l : List Int) (acc : Int × Int), (l.foldl (rstep arc u v) acc).1 ≤ acc.1 := by
  intro l
  induction l with
  | nil => intro acc; exact Int.le_refl _
  | cons z l ih =>
    intro acc
    refine Int.le_trans (ih _) ?_
    unfold rstep
    split
    · rename_i h; exact Int.le_of_lt h.2.2.2
    · exact Int.le_refl _
theorem foldl_least (arc : Nat → Arc4) (u v : Int) : ∀ (l : List Int) (acc : Int × Int) (z : Int), z ∈ l → (arc z.toNat).t = u → (arc z.toNat).h = v → (arc z.toNat).c = false → (l.foldl (rstep arc u v) acc).1 ≤ (arc z.toNat).w := by
  intro l
  induction l with
  | nil => intro acc z hz; cases hz
  | cons y l ih =>
    intro acc z hz h1 h2 h3
    rcases List.mem_cons.1 hz with rfl | hz
    · refine Int.le_trans (foldl_le arc u v l _) ?_
      unfold rstep
      by_cases hc : (arc z.toNat).w < acc.1
      · rw [if_pos ⟨h1, h2, h3, hc⟩]; exact Int.le_refl _
      · rw [if_neg (fun h => hc h.2.2.2)]; omega
    · exact ih _ z hz h1 h2 h3
theorem Gr.best_least (G : Gr) {k : Nat} (hk : k < 64) (htk : G.tk k = true) (hc : (G.arc k).c = false) : (G.best (G.arc k).t (G.arc k).h).1 ≤ (G.arc k).w :=
  foldl_least G.arc _ _ (sel G.tk) _ (k : Nat) ((sel_mem _ _).2 ⟨k, hk, htk, rfl⟩) rfl rfl hc
theorem Gr.Ok.best_out {G : Gr} (h : G.Ok) {u v : Int} (hu : ¬ ((0 ≤ u ∧ u < G.n) ∧ (0 ≤ v ∧ v < G.n))) : G.best u v = (4611686018427387906, -1) := by
  rcases G.best_is u v with e | ⟨k, hk, htk, rfl, rfl, _⟩
  · exact e
  · have := h.arc k hk htk
    exact absurd ⟨⟨this.1, this.2.1⟩, this.2.2.1, this.2.2.2⟩ hu

theorem GMem.arcs {w : World} {L : GLoc} {G : Gr} (h : GMem w L G) : ArcsAt w L.b G.arc := fun i hi => by
  have key : ∀ c, c < 4 → w.cell? ⟨L.b, i * 5 + c, none⟩ = some (G.slot i c) := fun c hc => by
    rw [h.blk.cell (by omega), Gr.slot_cell G L.ba i c hi (by omega)]
  exact ⟨key 0 (by omega), key 1 (by omega), key 2 (by omega), key 3 (by omega)⟩
theorem outs_lst (G : Gr) (u : Nat) : sel (G.outs u) = G.lst (2 * u) := by
  unfold Gr.lst
  refine sel_congr fun i _ => ?_
  unfold Gr.outs Gr.at
  rw [if_pos (by omega), show 2 * u / 2 = u by omega]
theorem GMem.out {w : World} {L : GLoc} {G : Gr} (h : GMem w L G) (u : Int) : OutAt w.heap.size w L.b u (selI (G.outs u)) := by
  have hn := h.ok.n2
  have h0 : w.cell? ⟨L.b, 320, none⟩ = some (.slice (some ⟨L.ba, 0, none⟩) G.n G.n) := h.blk.cell (i := 320) (by omega)
  refine ⟨h.blk.lt, ?_, some ⟨L.ba, 0, none⟩, G.n, G.n, h0, by omega, ?_⟩
  · rw [selI_len]; have := sel_len (G.outs u); omega
  · by_cases hu : 0 ≤ u ∧ u < G.n
    · obtain ⟨k, rfl⟩ := Int.eq_ofNat_of_zero_le hu.1
      have hk : k < G.n := by omega
      have hl : (selI (G.outs (k : Nat))).length = (G.lst (2 * k)).length := by rw [selI_len, outs_lst]
      have hc : w.cell? ⟨L.ba, 2 * k, none⟩ = some (ilv (G.lst (2 * k)) (L.c (2 * k)) (L.g (2 * k))) := h.at_.cell (by omega)
      have hls := h.ls (2 * k) (by omega)
      refine .inr ⟨L.ba, k, L.c (2 * k), (L.g (2 * k)).map (fun g => ⟨g, 0, none⟩), rfl, rfl, hk, h.at_.lt, ?_, ?_⟩
      · rw [show k * 2 = 2 * k by omega, hc, hl]
        cases hg : L.g (2 * k) with
        | none =>
          rw [hg] at hls
          obtain ⟨e1, e2⟩ := hls
          rw [e1, e2]; rfl
        | some g => rfl
      · cases hg : L.g (2 * k) with
        | none =>
          rw [hg] at hls
          obtain ⟨e1, e2⟩ := hls
          refine .inl ⟨?_, ?_⟩
          · rw [hl, e1, e2]; rfl
          · exact List.length_eq_zero_iff.1 (by rw [hl, e1]; rfl)
        | some g =>
          rw [hg] at hls
          obtain ⟨V, h1, h2, h3, h4⟩ := hls
          refine .inr ⟨g, 0, L.c (2 * k), rfl, h1.lt, fun j hj => ?_⟩
          rw [hl] at hj
          rw [Nat.zero_add, selI_get _ _ (by rw [outs_lst]; exact hj), outs_lst, ← h4 j hj]
          exact h1.cell (by omega)
    · refine .inl ⟨decide_eq_false hu, ?_⟩
      refine List.length_eq_zero_iff.1 ?_
      rw [selI_len]
      refine List.length_eq_zero_iff.2 (List.eq_nil_iff_forall_not_mem.2 fun z hz => ?_)
      obtain ⟨i, hi, hp, _⟩ := (sel_mem _ _).1 hz
      unfold Gr.outs at hp
      rw [Bool.and_eq_true] at hp
      have := h.ok.arc i hi hp.1
      have e : (G.arc i).t = u := by simpa using hp.2
      omega
theorem gbest2_calls {w : World} {L : GLoc} {G : Gr} (h : GMem w L G) (u v : Int) :
    Calls Tryd.prog 63 #[.pointer (some ⟨L.b, 0, none⟩), .int .i64 u, .int .i64 v] w fun e w' => e = .returned (.tuple #[.int .i64 (G.best u v).1, .int .i64 (G.best u v).2]) ∧ Fr No w w' := by
  have := gbest_calls (head := v) (h.out u) h.arcs
  rw [best_eq] at this
  exact this

theorem SlL.ints' {w : World} {A : Option Addr} {c : Nat} {l : List Int} (h : SlL w (.slice A l.length c) l) : IntsF w A l.length (fun j => l.getD j 0) := fun h0 => by
  rcases h with ⟨e, _⟩ | ⟨b, off, c', _, e, hc⟩
  · rw [e] at h0; exact absurd h0 (Nat.lt_irrefl _)
  · simp at e
    exact ⟨b, off, e.1, hc⟩

/-- What the document has, by way of one of the first vertices by rank: the least sum, and its vertex. -/
def Ix.rl (x : Ix) (u v : Int) : Nat → Int × Int
  | 0 => (4611686018427387906, -1)
  | k + 1 => if x.sum2 u v k < (x.rl u v k).1 then (x.sum2 u v k, (x.by_ k : Nat)) else x.rl u v k
theorem Ix.rl_is (x : Ix) (u v : Int) : ∀ k, x.rl u v k = (4611686018427387906, -1) ∨ (0 ≤ (x.rl u v k).2 ∧ (x.rl u v k).1 < 4611686018427387906) := by
  intro k
  induction k with
  | zero => exact .inl rfl
  | succ k ih =>
    unfold Ix.rl
    split
    · rename_i h
      refine .inr ⟨by show (0 : Int) ≤ (x.by_ k : Nat); omega, ?_⟩
      show x.sum2 u v k < _
      rcases ih with e | e
      · rw [e] at h; exact h
      · omega
    · exact ih
theorem Ix.rl_le (x : Ix) (u v : Int) (k : Nat) : (x.rl u v k).1 ≤ 4611686018427387906 := by
  rcases x.rl_is u v k with e | e
  · rw [e]; exact Int.le_refl _
  · omega
theorem Ix.bestTo_rl (x : Ix) (u v : Int) (b : En) (hb : b.w ≤ 4611686018427387906) : ∀ k, x.bestTo u v b k = if (x.rl u v k).1 < b.w then ⟨(x.rl u v k).1, -1, (x.rl u v k).2⟩ else b := by
  intro k
  induction k with
  | zero => rw [Ix.bestTo, Ix.rl, if_neg (by show ¬ (4611686018427387906 : Int) < b.w; omega)]
  | succ k ih =>
    rw [Ix.bestTo, ih, Ix.rl]
    obtain ⟨s, hs⟩ : ∃ s, x.sum2 u v k = s := ⟨_, rfl⟩
    obtain ⟨r, hr⟩ : ∃ r, x.rl u v k = r := ⟨_, rfl⟩
    rw [hs, hr]
    by_cases h1 : r.1 < b.w
    · rw [if_pos h1]
      by_cases h2 : s < r.1
      · rw [if_pos h2, if_pos h2, if_pos (show s < b.w by omega)]
      · rw [if_neg h2, if_neg h2, if_pos h1]
    · rw [if_neg h1]
      by_cases h3 : s < b.w
      · rw [if_pos h3, if_pos (show s < r.1 by omega), if_pos h3]
      · rw [if_neg h3]
        by_cases h2 : s < r.1
        · rw [if_pos h2, if_neg h3]
        · rw [if_neg h2, if_neg h1]
/-- The document's way to say it. -/
def Ix.rbest (x : Ix) (u v : Int) (d : Int × Int) : En :=
  if x.two u v = true then
    (if 0 ≤ d.2 ∧ d.1 ≤ (x.rl u v (min (x.rk u.toNat) (x.rk v.toNat))).1 then ⟨d.1, d.2, -1⟩
     else if 0 ≤ (x.rl u v (min (x.rk u.toNat) (x.rk v.toNat))).2 then ⟨(x.rl u v (min (x.rk u.toNat) (x.rk v.toNat))).1, -1, (x.rl u v (min (x.rk u.toNat) (x.rk v.toNat))).2⟩ else En.none)
  else En.none
theorem Ix.rbest_eq (x : Ix) (u v : Int) (d : Int × Int) (hd : d.1 ≤ 4611686018427387906) : x.best u v d = x.rbest u v d := by
  unfold Ix.best Ix.rbest
  cases ht : x.two u v with
  | false => rfl
  | true =>
    rw [if_pos rfl, if_pos rfl]
    have hr := x.rl_is u v (min (x.rk u.toNat) (x.rk v.toNat))
    obtain ⟨r, hr'⟩ : ∃ r, x.rl u v (min (x.rk u.toNat) (x.rk v.toNat)) = r := ⟨_, rfl⟩
    by_cases h0 : 0 ≤ d.2
    · rw [if_pos h0, Ix.bestTo_rl _ _ _ _ hd, hr']
      rw [hr'] at hr
      show (if r.1 < d.1 then _ else _) = _
      by_cases h1 : r.1 < d.1
      · rw [if_pos h1, if_neg (fun h => by omega)]
        rcases hr with e | e
        · rw [e] at h1; simp at h1; omega
        · rw [if_pos e.1]
      · rw [if_neg h1, if_pos ⟨h0, by omega⟩]
    · rw [if_neg h0, Ix.bestTo_rl _ _ _ _ (Int.le_refl _), hr']
      rw [hr'] at hr
      rw [show (if 0 ≤ d.2 ∧ d.1 ≤ r.1 then (⟨d.1, d.2, -1⟩ : En) else if 0 ≤ r.2 then ⟨r.1, -1, r.2⟩ else En.none) = if 0 ≤ r.2 then ⟨r.1, -1, r.2⟩ else En.none from if_neg (fun h => h0 h.1)]
      show (if r.1 < 4611686018427387906 then _ else _) = _
      rcases hr with e | e
      · rw [e]; rfl
      · rw [if_pos e.2, if_pos e.1]

/-- The right entry from one vertex to another one, in general. -/
theorem xbest_calls {x : Ix} {w : World} {L : IxLoc} (h : IxMem w L x) (hcap : x.n ≤ L.cb) {Lg : GLoc} {G : Gr} (hg : GMem w Lg G) (u v : Int) :
    Calls Tryd.prog 36 #[.pointer (some ⟨L.b, 0, none⟩), .pointer (some ⟨Lg.b, 0, none⟩), .int .i64 u, .int .i64 v] w fun e w' => e = .returned (x.best u v (G.best u v)).val ∧ Fr No w w' := by
  cases ht : x.two u v with
  | false =>
    have e : x.best u v (G.best u v) = En.none := by unfold Ix.best; rw [ht]; rfl
    rw [e]
    exact best_no h Lg.b u v ht
  | true =>
    obtain ⟨_, hu0, _, hv0, _⟩ := two_iff ht
    obtain ⟨a, rfl⟩ := Int.eq_ofNat_of_zero_le hu0
    obtain ⟨b, rfl⟩ := Int.eq_ofNat_of_zero_le hv0
    have e : x.best (a : Nat) (b : Nat) (G.best (a : Nat) (b : Nat)) = x.bestTo (a : Nat) (b : Nat) (if 0 ≤ (G.best (a : Nat) (b : Nat)).2 then ⟨(G.best (a : Nat) (b : Nat)).1, (G.best (a : Nat) (b : Nat)).2, -1⟩ else En.none) (min (x.rk a) (x.rk b)) := by
      unfold Ix.best; rw [if_pos ht]; rfl
    rw [e]
    have := best_yes h hcap (gb := Lg.b) ht (hg.out (a : Nat)) hg.arcs
    rw [best_eq] at this
    exact this

end Go.Proofs.YtpkocidcfnlbiaaDoor
