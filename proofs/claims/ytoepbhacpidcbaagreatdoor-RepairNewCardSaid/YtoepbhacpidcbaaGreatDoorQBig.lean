/- '==' of great arrays of numbers: one law. -/
import Derived.DeepKeys
import Derived.Test.YtoepbhacpidcbaaGreatDoorQBase
import Derived.Test.YtoepbhacpidcbaaGreatDoorQIdx
import Derived.Test.YtoepbhacpidcbaaGreatDoorQPerm
import Derived.Test.YtoepbhacpidcbaaGreatDoorQIdxB
import Derived.Test.YtoepbhacpidcbaaGreatDoorQRef

set_option linter.unusedVariables false
set_option linter.unusedSimpArgs false
namespace Go.Proofs.YtoepbhacpidcbaaGreatDoor
open Go.RowKit

/-- A row of cells of numbers, and of their words. -/
def cellsR (n : Nat) (f : Nat → Int) : List Value := (List.range n).map fun i => .int .i64 (f i)
def litsR (n : Nat) (f : Nat → Int) : List Lit := (List.range n).map fun i => .int .i64 (f i)
def Wf (f : Nat → Int) : Prop := ∀ i, -9223372036854775808 ≤ f i ∧ f i ≤ 9223372036854775807

theorem mapM_all {α β : Type} (g : α → Option β) (h : α → β) : ∀ l : List α, (∀ a, a ∈ l → g a = some (h a)) → l.mapM g = some (l.map h)
  | [], _ => rfl
  | a :: l, H => by
    rw [List.mapM_cons, H a (by simp), mapM_all g h l (fun b hb => H b (by simp [hb]))]
    rfl
theorem flat_rows {α : Type} (F : Nat → α) (m : Nat) : ∀ k, ((List.range k).map fun i => (List.range m).map fun j => F (i * m + j)).flatten = (List.range (k * m)).map F
  | 0 => by simp
  | k + 1 => by
    rw [List.range_succ, List.map_append, List.flatten_append, flat_rows F m k, Nat.succ_mul, List.range_add, List.map_append]
    simp [Function.comp_def]
theorem chunk {α : Type} (F : Nat → α) (k m i : Nat) (hi : i < k) : (((List.range (k * m)).map F).drop (i * m)).take m = (List.range m).map fun j => F (i * m + j) := by
  have h : (i + 1) * m ≤ k * m := Nat.mul_le_mul_right m hi
  rw [Nat.succ_mul] at h
  apply List.ext_getElem
  · simp; omega
  · intro j h1 h2
    simp

/-- A type all of whose cells are numbers. -/
def IntRow (P : Program) (D : Nat) (t : TypeId) (n : Nat) : Prop := P.cellsOf t = n ∧ ∀ f, Wf f → P.keyLits D t (cellsR n f) = some (litsR n f)

theorem intRow_array {P : Program} {D : Nat} {t e : TypeId} {k m : Nat} (h : IntRow P D e m) (hu : P.underlying t = some (.array k e)) (hc : P.cellsOf t = k * m) : IntRow P (D + 1) t (k * m) := by
  obtain ⟨he, hk⟩ := h
  refine ⟨hc, fun f hf => ?_⟩
  have hlen : (cellsR (k * m) f).length = k * m := by simp [cellsR]
  unfold Program.keyLits
  simp only [hu]
  rw [if_pos (hlen.trans hc.symm), he]
  rw [mapM_all _ (fun i => litsR m fun j => f (i * m + j))]
  · simp only [Option.map_some]
    congr 1
    exact flat_rows (fun i => Lit.int .i64 (f i)) m k
  · intro i hi
    have hi' : i < k := by simpa using hi
    rw [cellsR, chunk (fun i => Value.int .i64 (f i)) k m i hi']
    exact hk (fun j => f (i * m + j)) (fun j => hf _)

theorem litsR_inj {n : Nat} {f g : Nat → Int} : litsR n f = litsR n g ↔ ∀ i, i < n → f i = g i := by
  constructor
  · intro h i hi
    have := congrArg (·[i]?) h
    simp only [litsR, List.getElem?_map, List.getElem?_range hi, Option.map_some, Option.some.injEq, Lit.int.injEq, true_and] at this
    exact this
  · intro h
    unfold litsR
    apply List.map_congr_left
    intro i hi
    rw [h i (by simpa using hi)]

/-- The law. -/
theorem run_equal_row {P : Program} (w : World) {D d m : Nat} {t : TypeId} {n : Nat} (h : IntRow P D t n) (hk : P.keyTypeAt m t = true) (hd : d + m = 10000) (hwide : (match P.underlying t with | some (.array _ _) | some (.struct _) => true | _ => false) = true)
    {f g : Nat → Int} (hf : Wf f) (hg : Wf g) : ∃ r : Bool, (Op.equal t (.agg (cellsR n f).toArray) (.agg (cellsR n g).toArray)).run P w = .ok r w ∧ (r = true ↔ ∀ i, i < n → f i = g i) := by
  have hfm : ∀ f : Nat → Int, Value.formed P t (.agg (cellsR n f).toArray) = true := fun f => by
    unfold Value.formed
    split at hwide
    · rename_i hu; simp [hu, cellsR, h.1]
    · rename_i hu; simp [hu, cellsR, h.1]
    · cases hwide
  have hL : ∀ f, Wf f → P.keyLits D t (Value.cells (.agg (cellsR n f).toArray)).toList = some (litsR n f) := fun f hf => by
    show P.keyLits D t (cellsR n f).toArray.toList = _
    simpa using h.2 f hf
  obtain ⟨r, hr, hi⟩ := run_equalIn_deep d m t hk w D D _ _ _ _ (hfm f) (hfm g) (hL f hf) (hL g hg)
  rw [hd] at hr
  exact ⟨r, hr, hi.trans litsR_inj⟩

theorem wf_i64 {z : Int} (h : -9223372036854775808 ≤ z ∧ z ≤ 9223372036854775807) : (Lit.int .i64 z).wf = true := by
  have e1 : IntKind.i64.min = -9223372036854775808 := by decide
  have e2 : IntKind.i64.max = 9223372036854775807 := by decide
  simp [Lit.wf, e1, e2]; omega

theorem row3 {t : TypeId} {n0 n1 n2 : String} {f0 f1 f2 : Field} (hu : Tryz.prog.underlying t = some (.struct #[f0, f1, f2])) (hn : (f0.name != "_") = true ∧ (f1.name != "_") = true ∧ (f2.name != "_") = true)
    (ht : f0.type = 3 ∧ f1.type = 3 ∧ f2.type = 3) (ho : f0.offset = 0 ∧ f1.offset = 1 ∧ f2.offset = 2) (hc : Tryz.prog.cellsOf t = 3) : IntRow Tryz.prog 2 t 3 := ⟨hc, fun f hf => by
  have hi : Tryz.prog.cellsOf 3 = 1 := by kernel_rfl
  have k0 : Tryz.prog.keyLits 1 3 [.int .i64 (f 0)] = some [.int .i64 (f 0)] := by simp [Program.keyLits, Tryz.underlying3, wf_i64 (hf 0)]
  have k1 : Tryz.prog.keyLits 1 3 [.int .i64 (f 1)] = some [.int .i64 (f 1)] := by simp [Program.keyLits, Tryz.underlying3, wf_i64 (hf 1)]
  have k2 : Tryz.prog.keyLits 1 3 [.int .i64 (f 2)] = some [.int .i64 (f 2)] := by simp [Program.keyLits, Tryz.underlying3, wf_i64 (hf 2)]
  show Tryz.prog.keyLits (1 + 1) t [.int .i64 (f 0), .int .i64 (f 1), .int .i64 (f 2)] = some [.int .i64 (f 0), .int .i64 (f 1), .int .i64 (f 2)]
  unfold Program.keyLits
  simp only [hu]
  rw [if_pos ⟨by rw [hc]; rfl, by simp [hn.1, hn.2.1, hn.2.2]⟩]
  simp [ht.1, ht.2.1, ht.2.2, ho.1, ho.2.1, ho.2.2, hi, k0, k1, k2]⟩

theorem rowKept : IntRow Tryz.prog 2 176 3 := row3 (n0 := "") (n1 := "") (n2 := "") Tryz.underlying176 ⟨by decide, by decide, by decide⟩ ⟨rfl, rfl, rfl⟩ ⟨rfl, rfl, rfl⟩ (by kernel_rfl)
theorem rowEntry : IntRow Tryz.prog 2 117 3 := row3 (n0 := "") (n1 := "") (n2 := "") Tryz.underlying117 ⟨by decide, by decide, by decide⟩ ⟨rfl, rfl, rfl⟩ ⟨rfl, rfl, rfl⟩ (by kernel_rfl)
theorem rowKepts : IntRow Tryz.prog 3 177 (24 * 3) := intRow_array rowKept Tryz.underlying177 (by kernel_rfl)
theorem rowEntries : IntRow Tryz.prog 3 135 (24 * 3) := intRow_array rowEntry Tryz.underlying135 (by kernel_rfl)

theorem row2 {t e : TypeId} {D m : Nat} {f0 f1 : Field} (he : IntRow Tryz.prog D e m) (hu : Tryz.prog.underlying t = some (.struct #[f0, f1])) (hn : (f0.name != "_") = true ∧ (f1.name != "_") = true)
    (ht : f0.type = e ∧ f1.type = e) (ho : f0.offset = 0 ∧ f1.offset = m) (hc : Tryz.prog.cellsOf t = 2 * m) : IntRow Tryz.prog (D + 1) t (2 * m) := ⟨hc, fun f hf => by
  have c0 := chunk (fun i => Value.int .i64 (f i)) 2 m 0 (by omega)
  have c1 := chunk (fun i => Value.int .i64 (f i)) 2 m 1 (by omega)
  rw [Nat.zero_mul] at c0
  rw [Nat.one_mul] at c1
  have k0 := he.2 (fun j => f (0 * m + j)) (fun j => hf _)
  have k1 := he.2 (fun j => f (1 * m + j)) (fun j => hf _)
  have hlen : (cellsR (2 * m) f).length = 2 * m := by simp [cellsR]
  have hfl := flat_rows (fun i => Lit.int .i64 (f i)) m 2
  unfold Program.keyLits
  simp only [hu]
  rw [if_pos ⟨hlen.trans hc.symm, by simp [hn.1, hn.2]⟩]
  simp only [List.mapM_cons, List.mapM_nil, ht.1, ht.2, ho.1, ho.2, he.1]
  rw [show List.take m (List.drop 0 (cellsR (2 * m) f)) = cellsR m (fun j => f (0 * m + j)) by simpa [cellsR] using c0, show List.take m (List.drop m (cellsR (2 * m) f)) = cellsR m (fun j => f (1 * m + j)) by simpa [cellsR] using c1, k0, k1]
  simp only [Option.pure_def, Option.bind_eq_bind, Option.bind_some, Option.map_some]
  congr 1⟩
theorem rowEnds : IntRow Tryz.prog 4 179 (2 * (24 * 3)) := row2 rowKepts Tryz.underlying179 ⟨by decide, by decide⟩ ⟨rfl, rfl⟩ ⟨rfl, rfl⟩ (by kernel_rfl)
theorem rowAll : IntRow Tryz.prog 5 180 (24 * (2 * (24 * 3))) := intRow_array rowEnds Tryz.underlying180 (by kernel_rfl)

end Go.Proofs.YtoepbhacpidcbaaGreatDoor
