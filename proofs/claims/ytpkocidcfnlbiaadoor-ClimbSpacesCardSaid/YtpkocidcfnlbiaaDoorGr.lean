/- A graph as plain mathematics, and how it lies in memory. -/
import Derived.Test.YtpkocidcfnlbiaaDoorIns
set_option linter.unusedVariables false
set_option linter.unusedSimpArgs false
namespace Go.Proofs.YtpkocidcfnlbiaaDoor
open Go.RowKit Go.Deep

/-- The places of which something holds, rising. -/
def sel (p : Nat → Bool) : List Int := ((List.range 64).filter p).map (fun i : Nat => (i : Int))
theorem range_at (k : Nat) (hk : k < 64) : List.range 64 = List.range k ++ k :: List.range' (k + 1) (63 - k) := by
  rw [List.range_eq_range', List.range_eq_range']
  have h1 : List.range' 0 64 = List.range' 0 k ++ List.range' (0 + k) (64 - k) := by
    rw [List.range'_append_1]; congr 1; omega
  have h2 : List.range' (0 + k) (64 - k) = k :: List.range' (k + 1) (63 - k) := by
    rw [Nat.zero_add, show 64 - k = (63 - k) + 1 by omega, List.range'_succ]
  rw [h1, h2]
def selA (p : Nat → Bool) (k : Nat) : List Int := ((List.range k).filter p).map (fun i : Nat => (i : Int))
def selB (p : Nat → Bool) (k : Nat) : List Int := ((List.range' (k + 1) (63 - k)).filter p).map (fun i : Nat => (i : Int))
theorem sel_no {p : Nat → Bool} {k : Nat} (hk : k < 64) (h : p k = false) : sel p = selA p k ++ selB p k := by
  unfold sel selA selB
  rw [range_at k hk, List.filter_append, List.filter_cons_of_neg (by simp [h]), List.map_append]
theorem sel_yes {p : Nat → Bool} {k : Nat} (hk : k < 64) (h : p k = true) : sel p = selA p k ++ (k : Int) :: selB p k := by
  unfold sel selA selB
  rw [range_at k hk, List.filter_append, List.filter_cons_of_pos (by simp [h]), List.map_append, List.map_cons]
theorem selA_congr {p q : Nat → Bool} {k : Nat} (h : ∀ i, i ≠ k → p i = q i) : selA p k = selA q k := by
  unfold selA
  congr 1
  refine List.filter_congr fun i hi => h i ?_
  have := List.mem_range.1 hi
  omega
theorem selB_congr {p q : Nat → Bool} {k : Nat} (h : ∀ i, i ≠ k → p i = q i) : selB p k = selB q k := by
  unfold selB
  congr 1
  refine List.filter_congr fun i hi => h i ?_
  have := List.mem_range'_1.1 hi
  omega
theorem sel_congr {p q : Nat → Bool} (h : ∀ i, i < 64 → p i = q i) : sel p = sel q := by
  unfold sel
  congr 1
  exact List.filter_congr fun i hi => h i (by simpa using hi)
theorem pos_AB (p q : Nat → Bool) (k : Nat) (M : List Int) (hM : ∀ z ∈ M, z = k) : pos (selA p k ++ (M ++ selB q k)) (k : Nat) = (selA p k).length := by
  unfold pos
  rw [List.countP_append, List.countP_append]
  have h1 : (selA p k).countP (· < ((k : Nat) : Int)) = (selA p k).length := List.countP_eq_length.2 fun z hz => by
    unfold selA at hz
    obtain ⟨i, hi, rfl⟩ := List.mem_map.1 hz
    have := List.mem_range.1 (List.mem_filter.1 hi).1
    simp; omega
  have h2 : (selB q k).countP (· < ((k : Nat) : Int)) = 0 := List.countP_eq_zero.2 fun z hz => by
    unfold selB at hz
    obtain ⟨i, hi, rfl⟩ := List.mem_map.1 hz
    have := List.mem_range'_1.1 (List.mem_filter.1 hi).1
    simp; omega
  have h3 : M.countP (· < ((k : Nat) : Int)) = 0 := List.countP_eq_zero.2 fun z hz => by rw [hM z hz]; simp
  omega
theorem sel_ins {p q : Nat → Bool} {k : Nat} (hk : k < 64) (hp : p k = false) (hq : q k = true) (h : ∀ i, i ≠ k → q i = p i) : insA (sel p) (pos (sel p) (k : Nat)) (k : Nat) = sel q := by
  have e := pos_AB p p k [] (fun z hz => by cases hz)
  rw [List.nil_append] at e
  rw [sel_no hk hp, e, sel_yes hk hq, selA_congr h, selB_congr h]
  unfold insA
  simp
theorem sel_del {p q : Nat → Bool} {k : Nat} (hk : k < 64) (hp : p k = true) (hq : q k = false) (h : ∀ i, i ≠ k → q i = p i) : pos (sel p) (k : Nat) < (sel p).length ∧ delA (sel p) (pos (sel p) (k : Nat)) = sel q := by
  have e := pos_AB p p k [(k : Int)] (fun z hz => by simpa using hz)
  rw [show selA p k ++ ([(k : Int)] ++ selB p k) = selA p k ++ (k : Int) :: selB p k from rfl] at e
  rw [sel_yes hk hp, e, sel_no hk hq, selA_congr h, selB_congr h]
  refine ⟨by simp, ?_⟩
  unfold delA
  simp
theorem sel_len (p : Nat → Bool) : (sel p).length ≤ 64 := by
  unfold sel
  rw [List.length_map]
  have := List.length_filter_le p (List.range 64)
  simpa using this
theorem sel_sorted (p : Nat → Bool) : (sel p).Pairwise (· ≤ ·) := by
  unfold sel
  rw [List.pairwise_map]
  refine List.Pairwise.filter _ ?_
  refine List.Pairwise.imp (R := (· < ·)) (fun h => by omega) ?_
  exact List.pairwise_lt_range
theorem sel_mem (p : Nat → Bool) (z : Int) : z ∈ sel p ↔ ∃ i : Nat, i < 64 ∧ p i = true ∧ z = i := by
  unfold sel
  rw [List.mem_map]
  constructor
  · rintro ⟨i, hi, rfl⟩
    have := List.mem_filter.1 hi
    exact ⟨i, by simpa using this.1, this.2, rfl⟩
  · rintro ⟨i, h1, h2, rfl⟩
    exact ⟨i, List.mem_filter.2 ⟨by simpa using h1, h2⟩, rfl⟩

/-- A graph. -/
structure Gr where
  n : Nat
  most : Nat
  arc : Nat → Arc4
  tk : Nat → Bool
def Gr.at (G : Gr) (q : Nat) (i : Nat) : Bool := G.tk i && decide ((if q % 2 = 0 then (G.arc i).t else (G.arc i).h) = (q / 2 : Nat))
/-- The arcs at a vertex: out of vertex q / 2 if q is even, else into it. -/
def Gr.lst (G : Gr) (q : Nat) : List Int := sel (G.at q)
def Gr.cnt (G : Gr) : Nat := (sel G.tk).length
def Gr.slot (G : Gr) (k c : Nat) : Value := if c = 0 then .int .i64 (G.arc k).t else if c = 1 then .int .i64 (G.arc k).h else if c = 2 then .int .i64 (G.arc k).w else if c = 3 then .bool (G.arc k).c else .bool (G.tk k)
def Gr.cell (G : Gr) (ba i : Nat) : Value := if i < 320 then G.slot (i / 5) (i % 5) else if i = 320 then .slice (some ⟨ba, 0, none⟩) G.n G.n else if i = 321 then .int .i64 (G.cnt : Nat) else .int .i64 (G.most : Nat)

structure GLoc where
  b : Nat
  ba : Nat
  g : Nat → Option Nat
  c : Nat → Nat
/-- The blocks of a graph. -/
def GLoc.own (L : GLoc) (n : Nat) (k : Nat) : Prop := k = L.b ∨ k = L.ba ∨ ∃ q, q < 2 * n ∧ L.g q = some k

structure Gr.Ok (G : Gr) : Prop where
  n1 : 1 ≤ G.n
  n2 : G.n ≤ 24
  m1 : 1 ≤ G.most
  m2 : G.most ≤ 64
  arc : ∀ i, i < 64 → G.tk i = true → 0 ≤ (G.arc i).t ∧ (G.arc i).t < G.n ∧ 0 ≤ (G.arc i).h ∧ (G.arc i).h < G.n

structure GMem (w : World) (L : GLoc) (G : Gr) : Prop where
  ok : G.Ok
  blk : Blk w L.b 323 73 (G.cell L.ba)
  at_ : Blk w L.ba (2 * G.n) 76 (fun q => ilv (G.lst q) (L.c q) (L.g q))
  ls : ∀ q, q < 2 * G.n → IL w (G.lst q) (L.c q) (L.g q)
  ne : L.b ≠ L.ba ∧ ∀ q k, q < 2 * G.n → L.g q = some k → k ≠ L.b ∧ k ≠ L.ba
  inj : ∀ p q k, p < 2 * G.n → q < 2 * G.n → L.g p = some k → L.g q = some k → p = q

theorem GMem.fr {w w' : World} {L : GLoc} {G : Gr} (h : GMem w L G) {F : Nat → Prop} (hf : Fr F w w') (hF : ∀ k, L.own G.n k → ¬ F k) : GMem w' L G :=
  ⟨h.ok, h.blk.fr hf (hF _ (.inl rfl)), h.at_.fr hf (hF _ (.inr (.inl rfl))), fun q hq => (h.ls q hq).fr hf (fun k hk => hF k (.inr (.inr ⟨q, hq, hk⟩))), h.ne, h.inj⟩
theorem GMem.no {w w' : World} {L : GLoc} {G : Gr} (h : GMem w L G) (hf : Fr No w w') : GMem w' L G := h.fr hf (fun _ _ h => h)
theorem GMem.own_lt {w : World} {L : GLoc} {G : Gr} (h : GMem w L G) {k : Nat} (hk : L.own G.n k) : k < w.heap.size := by
  rcases hk with rfl | rfl | ⟨q, hq, hk⟩
  · exact h.blk.lt
  · exact h.at_.lt
  · have := h.ls q hq
    rw [hk] at this
    exact ILat.lt this
theorem Gr.slot_cell (G : Gr) (ba k c : Nat) (hk : k < 64) (hc : c < 5) : G.cell ba (k * 5 + c) = G.slot k c := by
  unfold Gr.cell
  rw [if_pos (by omega), show (k * 5 + c) / 5 = k by omega, show (k * 5 + c) % 5 = c by omega]

end Go.Proofs.YtpkocidcfnlbiaaDoor
