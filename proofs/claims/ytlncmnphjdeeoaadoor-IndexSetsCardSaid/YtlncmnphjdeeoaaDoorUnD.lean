/- The program's and the document's unpacking come to the same; equal lists of numbers; walked. -/
import Derived.Test.YtlncmnphjdeeoaaDoorUnC
set_option linter.unusedVariables false
set_option linter.unusedSimpArgs false
namespace Go.Proofs.YtlncmnphjdeeoaaDoor
open Go.RowKit Go.Deep

theorem Ix.unw_one (x : Ix) (u v : Int) : x.unw (fun _ => (u, v)) 1 [] = x.add 25 u v [] := by
  have h := x.add_len 25 u v [] (by simp)
  simp only [Ix.unw]
  generalize x.add 25 u v [] = r at h ⊢
  obtain ⟨r1, r2⟩ := r
  by_cases e : r2 = 0
  · subst e; rfl
  · have := (h.2.2 e).1
    simp only at this e ⊢
    rw [if_pos e, this]

theorem parcs_calls {x : Ix} (hfit : x.Fit) {w : World} {L : IxLoc} (h : IxMem w L x) (u v : Int) :
    Calls Tryd.prog 16 #[.pointer (some ⟨L.b, 0, none⟩), .int .i64 u, .int .i64 v] w fun e w' => ∃ sv', e = .returned (.tuple #[sv', .int .i64 (x.arcs u v).2]) ∧ Fr No w w' ∧ SlL w' sv' (x.arcs u v).1 := by
  cases ht : x.two u v with
  | false =>
    have e : x.arcs u v = ([], 1) := by simp [Ix.arcs, ht]
    rw [e]
    refine (parcs_no h u v (by simp [Ix.low, ht])).mono ?_
    rintro r w' ⟨rfl, hf⟩
    exact ⟨_, rfl, hf, SlL.nil _⟩
  | true =>
    have e : x.arcs u v = x.add 25 u v [] := by simp [Ix.arcs, ht]
    obtain ⟨hne, h1, h2, h3, h4⟩ := two_iff ht
    rw [e, ← Ix.unw_one]
    exact parcs_yes hfit h u v (by simp only [Ix.low, ht, if_true]; split <;> omega)

/-- A slice that reads as a list. -/
theorem SlL.intsF {w : World} {v : Value} {l : List Int} (h : SlL w v l) : ∃ A c, v = .slice A l.length c ∧ IntsF w A l.length (fun j => l.getD j 0) := by
  rcases h with ⟨rfl, rfl⟩ | ⟨b, off, c, h0, rfl, hc⟩
  · exact ⟨none, 0, rfl, fun h => by simp at h⟩
  · exact ⟨_, c, rfl, fun _ => ⟨b, off, rfl, hc⟩⟩

set_option maxHeartbeats 1000000 in
theorem ints_calls (A B : Option Addr) (n m c d : Nat) (f g : Nat → Int) (w : World) (ha : IntsF w A n f) (hb : IntsF w B m g) (hn : n ≤ 140737488351232) (hm : m ≤ 140737488351232) (r : Bool) (hr : r = true ↔ (n = m ∧ ∀ j, j < n → f j = g j)) :
    Calls Tryd.prog 18 #[.slice A n c, .slice B m d] w fun e w' => e = .returned (.bool r) ∧ Fr No w w' := by
  have HR := hid hr
  clear hr
  by_cases hnm : n = m
  · subst hnm
    go_enter Tryd.func18, Tryd.ntmps18
    go_wp2
    go_loopg [5] n (fun k p wr => ∃ i : Nat, i ≤ n ∧ p = .int .i64 i ∧ k = n - i ∧ Fr No w wr ∧ ∀ j, j < i → f j = g j)
    case atStart => exact ⟨0, Nat.zero_le _, rfl, rfl, Fr.refl _ _, fun j hj => by omega⟩
    case round =>
      obtain ⟨i, hi, rfl, hk, hf, he⟩ := hrel
      by_cases hlt : i < n
      · obtain ⟨b1, o1, rfl, hc1⟩ := ha (by omega)
        obtain ⟨b2, o2, rfl, hc2⟩ := hb (by omega)
        have q1 := hf.cell_some (hc1 i hlt) (fun h => h)
        have q2 := hf.cell_some (hc2 i hlt) (fun h => h)
        have HF := hid hf
        have HE := hid he
        have HK := hid hk
        have HA := hid ha
        have HB := hid hb
        clear hf he hk hc1 hc2 ha hb
        by_cases hx : f i = g i
        · have HX := hid hx
          have hx' : (f i != g i) = false := by simpa using hx
          clear hx
          go_wp2
          go_quiet (fail)
          go_wp2
          go_roundg (n - (i + 1))
          case measure => have := HK.out; omega
          case rel =>
            refine ⟨i + 1, by omega, by go_num, rfl, HF.out.drewN _, fun j hj => ?_⟩
            rcases Nat.lt_succ_iff_lt_or_eq.1 hj with hj | rfl
            · exact HE.out j hj
            · exact HX.out
        · have HX := hid hx
          have hx' : (f i != g i) = true := by simpa using hx
          clear hx
          go_wp2
          go_quiet (fail)
          go_wp2
          go_ret
          refine ⟨ret_bool ?_, HF.out.drewN _⟩
          cases r with
          | false => rfl
          | true => exact absurd ((HR.out.1 rfl).2 i hlt) HX.out
      · have HF := hid hf
        have HE := hid he
        clear hf he hk
        go_wp2
        go_ret
        refine ⟨ret_bool ?_, HF.out⟩
        exact (HR.out.2 ⟨trivial, fun j hj => HE.out j (by omega)⟩).symm
  · have hnm' : ((n : Int) != (m : Int)) = true := by simp; omega
    have HN := hid hnm
    clear hnm
    go_enter Tryd.func18, Tryd.ntmps18
    go_wp2
    go_ret
    refine ⟨ret_bool ?_, Fr.refl _ _⟩
    cases r with
    | false => rfl
    | true => exact absurd (HR.out.1 rfl).1 HN.out

theorem ints_same {w : World} {a b : Value} {l : List Int} (ha : SlL w a l) (hb : SlL w b l) (hl : l.length ≤ 100000) :
    Calls Tryd.prog 18 #[a, b] w fun e w' => e = .returned (.bool true) ∧ Fr No w w' := by
  obtain ⟨A, c, rfl, h1⟩ := ha.intsF
  obtain ⟨B, d, rfl, h2⟩ := hb.intsF
  exact ints_calls A B _ _ c d _ _ w h1 h2 (by omega) (by omega) true (by simp)

end Go.Proofs.YtlncmnphjdeeoaaDoor
