/- Unpacking, the document's 'Arcs' and the program's stack; walked. -/
import Derived.Test.YtlncmnphjdeeoaaDoorUnrefB
set_option linter.unusedVariables false
set_option linter.unusedSimpArgs false
namespace Go.Proofs.YtlncmnphjdeeoaaDoor
open Go.RowKit Go.Deep
attribute [local go_sem ↓] Go.wp_at_zero Go.wp_at_succ
attribute [local go_sem high] run_eql_en run_neq_en

/-- The arcs of an entry and the code (1: no two vertices). -/
def Ix.arcs (x : Ix) (u v : Int) : List Int × Int := if x.two u v = true then x.add 25 u v [] else ([], 1)

set_option maxHeartbeats 1000000 in
theorem rarcs_calls {x : Ix} (hfit : x.Fit) (hok : x.Ok) {w : World} {R : RxLoc} (h : RxMem w R x) (u v : Int) :
    Calls Tryd.prog 17 #[.pointer (some ⟨R.b, 0, none⟩), .int .i64 u, .int .i64 v] w fun e w' => ∃ sv', e = .returned (.tuple #[sv', .int .i64 (x.arcs u v).2]) ∧ Fr No w w' ∧ SlL w' sv' (x.arcs u v).1 := by
  cases ht : x.two u v with
  | false =>
    have e : x.arcs u v = ([], 1) := by simp [Ix.arcs, ht]
    rw [e]; clear e
    have HT := hid ht
    clear ht
    go_enter Tryd.func17, Tryd.ntmps17
    go_wp2_with (go_at_call 34; refine (rtwo_calls h _ _).mono ?_; rintro e w' ⟨rfl, rfl⟩; rw [HT.out])
    go_ret2
    exact ⟨_, rfl, Fr.refl _ _, SlL.nil _⟩
  | true =>
    have e : x.arcs u v = x.add 25 u v [] := by simp [Ix.arcs, ht]
    rw [e]; clear e
    have hd := Ix.dep_le hok ht
    have HT := hid ht
    clear ht
    go_enter Tryd.func17, Tryd.ntmps17
    go_wp2_with (first
      | (go_at_call 34; refine (rtwo_calls h _ _).mono ?_; rintro e w' ⟨rfl, rfl⟩; rw [HT.out])
      | (go_at_call 60; refine (radd_calls hfit hok 25 u v [] _ _ _ h (by omega) (fun _ => by omega) (by simp) (SlL.nil _)).mono ?_; rintro e w1 ⟨sv, rfl, hf, hs⟩; have HF := hid hf; have HS := hid hs; clear hf hs))
    go_ret2
    exact ⟨_, rfl, HF.out, HS.out⟩

set_option maxHeartbeats 1000000 in
theorem pop_calls (b off n c : Nat) (u v : Int) (w : World) (hn : n < 140737488351232) (hc : n + 1 ≤ c) (h0 : w.cell? ⟨b, off + n * 2, none⟩ = some (.int .i64 u)) (h1 : w.cell? ⟨b, off + n * 2 + 1, none⟩ = some (.int .i64 v)) :
    Calls Tryd.prog 59 #[.slice (some ⟨b, off, none⟩) (n + 1) c] w fun e w' => e = .returned (.tuple #[.agg #[.int .i64 u, .int .i64 v], .slice (some ⟨b, off, none⟩) n n]) ∧ Fr No w w' := by
  have hb := World.block_lt_of_cell? _ _ h0
  go_enter Tryd.func59, Tryd.ntmps59
  go_wp2
  go_region
  all_goals go_wp2
  all_goals
    have q := cell_of (heap_new w (.cells #[.int .i64 u, .int .i64 v] 102))
    refine bodyPost_ret (v := .tuple #[.agg #[.int .i64 u, .int .i64 v], .slice (some ⟨b, off, none⟩) n n]) (by simp [results, Tryd.results59, go_sem, q 0, q 1]) rfl ⟨rfl, ((Fr.refl _ _).alloc _).drew⟩

end Go.Proofs.YtlncmnphjdeeoaaDoor
