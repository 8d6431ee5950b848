/- Distances: Norm, Add, Min, Less, Told; walked (for the laws of layer 1). -/
import Derived.Test.YthflnhnhdgegdaaDoorProg
import Derived.Test.YthflnhnhdgegdaaDoorBase
import Derived.WalkLawsBesides
import Derived.Deep.QuietTactic
import Derived.BigQuiet
import Derived.KernelRfl
import Derived.Deep.LoopGhost
set_option linter.unusedVariables false
set_option linter.unusedSimpArgs false
namespace Go.Proofs.YthflnhnhdgegdaaDoor
open Go.RowKit

/-- A slice's numbers, as a function of the place. -/
def IntsF (w : World) (A : Option Addr) (n : Nat) (f : Nat → Int) : Prop :=
  0 < n → ∃ b off, A = some ⟨b, off, none⟩ ∧ ∀ j, j < n → w.cell? ⟨b, off + j, none⟩ = some (.int .i64 (f j))
theorem IntsF.fr {w w' : World} {A : Option Addr} {n : Nat} {f : Nat → Int} (h : IntsF w A n f) (hf : Fr No w w') : IntsF w' A n f := fun hn => by
  obtain ⟨b, off, e, hc⟩ := h hn
  exact ⟨b, off, e, fun j hj => hf.cell_some (hc j hj) (fun h => h)⟩
theorem ret_int {k : IntKind} {a b : Int} (h : a = b) : Ending.returned (.int k a) = .returned (.int k b) := by rw [h]
theorem lit_ints {w : World} {C : Array Value} {T : TypeId} (n : Nat) (f : Nat → Int) (h : ∀ j, j < n → C[j]? = some (.int .i64 (f j))) : IntsF (w.alloc (.cells C T)) (some ⟨w.heap.size, 0, none⟩) n f :=
  fun _ => ⟨w.heap.size, 0, rfl, fun j hj => by rw [Nat.zero_add, cell_of (heap_new w _)]; exact h j hj⟩

def normI (x : Int) : Int := if x < 0 then 0 else if 4611686018427387906 < x then 4611686018427387906 else x
def add1 (s x : Int) : Int :=
  if s = 4611686018427387906 ∨ normI x = 4611686018427387906 then 4611686018427387906 else if 4611686018427387904 < s ∨ 4611686018427387904 - s < normI x then 4611686018427387905 else s + normI x
theorem normI_b (x : Int) : 0 ≤ normI x ∧ normI x ≤ 4611686018427387906 := by unfold normI; split <;> (try split) <;> omega
theorem add1_b {s : Int} (h : 0 ≤ s ∧ s ≤ 4611686018427387906) (x : Int) : 0 ≤ add1 s x ∧ add1 s x ≤ 4611686018427387906 := by
  have := normI_b x
  unfold add1
  split
  · omega
  · split <;> omega

set_option maxRecDepth 100000 in
set_option maxHeartbeats 1000000 in
theorem norm_calls (x : Int) (w : World) : Calls Tryd.prog 15 #[.int .i64 x] w fun e w' => e = .returned (.int .i64 (normI x)) ∧ Fr No w w' := by
  rcases (show x < 0 ∨ (0 ≤ x ∧ 4611686018427387906 < x) ∨ (0 ≤ x ∧ x ≤ 4611686018427387906) by omega) with h | h | h
  · have e : normI x = 0 := by unfold normI; rw [if_pos h]
    have h2 := h
    go_enter Tryd.func15, Tryd.ntmps15
    go_wp2
    all_goals (try (exfalso; split at * <;> omega))
    all_goals go_ret
    all_goals exact ⟨ret_int (by rw [e]), Fr.refl _ _⟩
  · have e : normI x = 4611686018427387906 := by unfold normI; rw [if_neg (by omega), if_pos h.2]
    obtain ⟨h1, h2⟩ := h
    go_enter Tryd.func15, Tryd.ntmps15
    go_wp2
    all_goals (try (exfalso; split at * <;> omega))
    all_goals go_ret
    all_goals exact ⟨ret_int (by rw [e]), Fr.refl _ _⟩
  · have e : normI x = x := by unfold normI; rw [if_neg (by omega), if_neg (by omega)]
    obtain ⟨h1, h2⟩ := h
    go_enter Tryd.func15, Tryd.ntmps15
    go_wp2
    all_goals (try (exfalso; split at * <;> omega))
    all_goals go_ret
    all_goals exact ⟨ret_int (by rw [e]), Fr.refl _ _⟩

set_option maxRecDepth 100000 in
set_option maxHeartbeats 2000000 in
theorem add1_calls (s x : Int) (hs : 0 ≤ s ∧ s ≤ 4611686018427387906) (w : World) : Calls Tryd.prog 26 #[.int .i64 s, .int .i64 x] w fun e w' => e = .returned (.int .i64 (add1 s x)) ∧ Fr No w w' := by
  have hb := normI_b x
  obtain ⟨y, hy⟩ : ∃ y, normI x = y := ⟨_, rfl⟩
  have HY := hid hy
  have hadd : add1 s x = if s = 4611686018427387906 ∨ y = 4611686018427387906 then 4611686018427387906 else if 4611686018427387904 < s ∨ 4611686018427387904 - s < y then 4611686018427387905 else s + y := by rw [add1, hy]
  have HADD := hid hadd
  rw [hy] at hb
  clear hadd hy
  by_cases c1 : s = 4611686018427387906
  · subst c1
    go_enter Tryd.func26, Tryd.ntmps26
    go_wp2_with (go_at_call 15; refine (norm_calls x _).mono ?_; rintro e w1 ⟨rfl, hf⟩; rw [HY.out])
    go_ret
    exact ⟨by rw [HADD.out]; simp, hf⟩
  · have d1 : (s == 4611686018427387906) = false := by simpa using c1
    by_cases c2 : y = 4611686018427387906
    · subst c2
      go_enter Tryd.func26, Tryd.ntmps26
      go_wp2_with (go_at_call 15; refine (norm_calls x _).mono ?_; rintro e w1 ⟨rfl, hf⟩; rw [HY.out])
      all_goals go_ret
      all_goals exact ⟨by rw [HADD.out]; simp, hf⟩
    · have d2 : (y == 4611686018427387906) = false := by simpa using c2
      by_cases c3 : 4611686018427387904 < s
      · go_enter Tryd.func26, Tryd.ntmps26
        go_wp2_with (go_at_call 15; refine (norm_calls x _).mono ?_; rintro e w1 ⟨rfl, hf⟩; rw [HY.out])
        all_goals go_ret
        all_goals exact ⟨ret_int (by rw [HADD.out, if_neg (by omega), if_pos (.inl c3)]), hf⟩
      · by_cases c4 : 4611686018427387904 - s < y
        · go_enter Tryd.func26, Tryd.ntmps26
          go_wp2_with (go_at_call 15; refine (norm_calls x _).mono ?_; rintro e w1 ⟨rfl, hf⟩; rw [HY.out])
          all_goals go_ret
          all_goals exact ⟨ret_int (by rw [HADD.out, if_neg (by omega), if_pos (.inr c4)]), hf⟩
        · go_enter Tryd.func26, Tryd.ntmps26
          go_wp2_with (go_at_call 15; refine (norm_calls x _).mono ?_; rintro e w1 ⟨rfl, hf⟩; rw [HY.out])
          all_goals go_ret
          all_goals exact ⟨ret_int (by rw [HADD.out, if_neg (by omega), if_neg (by omega)]), hf⟩

def accF (f : Nat → Int) : Nat → Int
  | 0 => 0
  | i + 1 => add1 (accF f i) (f i)
theorem accF_b (f : Nat → Int) : ∀ i, 0 ≤ accF f i ∧ accF f i ≤ 4611686018427387906 := by
  intro i
  induction i with
  | zero => simp [accF]
  | succ i ih => exact add1_b ih _

set_option maxRecDepth 100000 in
set_option maxHeartbeats 2000000 in
theorem fold_calls {w : World} {A : Option Addr} {n c : Nat} {f : Nat → Int} (h : IntsF w A n f) (hn : n ≤ 140737488351232) :
    Calls Tryd.prog 25 #[.slice A n c, .int .i64 0, .func (.func 26) #[] #[]] w fun e w' => e = .returned (.int .i64 (accF f n)) ∧ Fr No w w' := by
  have H := hid h
  clear h
  go_enter Tryd.func25, Tryd.ntmps25
  go_wp2
  go_loopg [1, 11] n (fun g p q wr => ∃ i : Nat, p = .int .i64 (accF f i) ∧ q = .int .i64 i ∧ i ≤ n ∧ g = n - i ∧ Fr No w wr)
  case atStart => exact ⟨0, rfl, rfl, Nat.zero_le _, rfl, Fr.refl _ _⟩
  case round =>
    obtain ⟨i, rfl, rfl, hi, hg, hf⟩ := hrel
    have HG := hid hg
    have HF := hid hf
    clear hg hf
    by_cases hlt : i < n
    · obtain ⟨b, off, rfl, hc⟩ := H.out (by omega)
      have q0 := HF.out.cell_some (hc i hlt) (fun h => h)
      have HC := hid hc
      have hlt2 : (i : Int) < n := by omega
      have hb := accF_b f i
      clear hc
      go_wp2_with (go_at_call 26; refine (add1_calls (accF f i) (f i) hb _).mono ?_; rintro e w1 ⟨rfl, hf1⟩)
      go_roundg (n - (i + 1))
      case measure => have := HG.out; omega
      case rel => exact ⟨i + 1, rfl, by go_num, hlt, rfl, HF.out.trans hf1⟩
    · have e : i = n := by omega
      subst e
      go_wp2
      go_ret
      exact ⟨rfl, HF.out⟩

set_option maxRecDepth 100000 in
set_option maxHeartbeats 1000000 in
theorem add_calls {w : World} {A : Option Addr} {n c : Nat} {f : Nat → Int} (h : IntsF w A n f) (hn : n ≤ 140737488351232) :
    Calls Tryd.prog 13 #[.slice A n c] w fun e w' => e = .returned (.int .i64 (accF f n)) ∧ Fr No w w' := by
  have H := hid h
  clear h
  go_enter Tryd.func13, Tryd.ntmps13
  go_wp2_with (go_at_call 25; refine (fold_calls H.out hn).mono ?_; rintro e w1 ⟨rfl, hf1⟩)
  go_ret
  exact ⟨rfl, hf1⟩

/-- The least, as far as a place. -/
def minF (f : Nat → Int) : Nat → Int
  | 0 => 4611686018427387906
  | i + 1 => min (minF f i) (normI (f i))
theorem minF_b (f : Nat → Int) : ∀ i, 0 ≤ minF f i ∧ minF f i ≤ 4611686018427387906 := by
  intro i
  induction i with
  | zero => simp [minF]
  | succ i ih => have := normI_b (f i); unfold minF; omega

set_option maxRecDepth 100000 in
set_option maxHeartbeats 2000000 in
theorem min1_calls (s x : Int) (w : World) : Calls Tryd.prog 27 #[.int .i64 s, .int .i64 x] w fun e w' => e = .returned (.int .i64 (min s (normI x))) ∧ Fr No w w' := by
  obtain ⟨y, hy⟩ : ∃ y, normI x = y := ⟨_, rfl⟩
  have HY := hid hy
  rw [hy]
  clear hy
  rcases Int.lt_or_le s y with h | h
  · have e : min s y = s := by omega
    have HE := hid e
    clear e
    go_enter Tryd.func27, Tryd.ntmps27
    go_wp2_with (go_at_call 15; refine (norm_calls x _).mono ?_; rintro e w1 ⟨rfl, hf⟩; rw [HY.out])
    all_goals (try (exfalso; split at * <;> omega))
    all_goals go_ret
    all_goals exact ⟨ret_int (by rw [HE.out]), hf⟩
  · have e : min s y = y := by omega
    have HE := hid e
    clear e
    go_enter Tryd.func27, Tryd.ntmps27
    go_wp2_with (go_at_call 15; refine (norm_calls x _).mono ?_; rintro e w1 ⟨rfl, hf⟩; rw [HY.out])
    all_goals (try (exfalso; split at * <;> omega))
    all_goals go_ret
    all_goals exact ⟨ret_int (by rw [HE.out]; try omega), hf⟩

set_option maxRecDepth 100000 in
set_option maxHeartbeats 2000000 in
theorem foldm_calls {w : World} {A : Option Addr} {n c : Nat} {f : Nat → Int} (h : IntsF w A n f) (hn : n ≤ 140737488351232) :
    Calls Tryd.prog 25 #[.slice A n c, .int .i64 4611686018427387906, .func (.func 27) #[] #[]] w fun e w' => e = .returned (.int .i64 (minF f n)) ∧ Fr No w w' := by
  have H := hid h
  clear h
  go_enter Tryd.func25, Tryd.ntmps25
  go_wp2
  go_loopg [1, 11] n (fun g p q wr => ∃ i : Nat, p = .int .i64 (minF f i) ∧ q = .int .i64 i ∧ i ≤ n ∧ g = n - i ∧ Fr No w wr)
  case atStart => exact ⟨0, rfl, rfl, Nat.zero_le _, rfl, Fr.refl _ _⟩
  case round =>
    obtain ⟨i, rfl, rfl, hi, hg, hf⟩ := hrel
    have HG := hid hg
    have HF := hid hf
    clear hg hf
    by_cases hlt : i < n
    · obtain ⟨b, off, rfl, hc⟩ := H.out (by omega)
      have q0 := HF.out.cell_some (hc i hlt) (fun h => h)
      have HC := hid hc
      have hlt2 : (i : Int) < n := by omega
      have hb := minF_b f i
      clear hc
      go_wp2_with (go_at_call 27; refine (min1_calls (minF f i) (f i) _).mono ?_; rintro e w1 ⟨rfl, hf1⟩)
      go_roundg (n - (i + 1))
      case measure => have := HG.out; omega
      case rel => exact ⟨i + 1, rfl, by go_num, hlt, rfl, HF.out.trans hf1⟩
    · have e : i = n := by omega
      subst e
      go_wp2
      go_ret
      exact ⟨rfl, HF.out⟩

set_option maxRecDepth 100000 in
set_option maxHeartbeats 1000000 in
theorem min_calls {w : World} {A : Option Addr} {n c : Nat} {f : Nat → Int} (h : IntsF w A n f) (hn : n ≤ 140737488351232) :
    Calls Tryd.prog 14 #[.slice A n c] w fun e w' => e = .returned (.int .i64 (minF f n)) ∧ Fr No w w' := by
  have H := hid h
  clear h
  go_enter Tryd.func14, Tryd.ntmps14
  go_wp2_with (go_at_call 25; refine (foldm_calls H.out hn).mono ?_; rintro e w1 ⟨rfl, hf1⟩)
  go_ret
  exact ⟨rfl, hf1⟩

set_option maxRecDepth 100000 in
set_option maxHeartbeats 1000000 in
theorem less_calls (x y : Int) (w : World) : Calls Tryd.prog 20 #[.int .i64 x, .int .i64 y] w fun e w' => e = .returned (.bool (decide (normI x < normI y))) ∧ Fr No w w' := by
  go_enter Tryd.func20, Tryd.ntmps20
  go_wp2_with fail
  refine (norm_calls x _).mono ?_
  rintro e w1 ⟨rfl, hf1⟩
  go_wp2_with fail
  refine (norm_calls y _).mono ?_
  rintro e w2 ⟨rfl, hf2⟩
  go_wp2
  go_ret
  exact ⟨rfl, hf1.trans hf2⟩

set_option maxRecDepth 100000 in
set_option maxHeartbeats 1000000 in
theorem told_calls (x : Int) (w : World) : Calls Tryd.prog 17 #[.int .i64 x] w fun e w' => e = .returned (.bool (decide (normI x ≤ 4611686018427387904))) ∧ Fr No w w' := by
  go_enter Tryd.func17, Tryd.ntmps17
  go_wp2_with fail
  refine (norm_calls x _).mono ?_
  rintro e w1 ⟨rfl, hf1⟩
  go_wp2
  go_ret
  exact ⟨rfl, hf1⟩

set_option maxRecDepth 100000 in
set_option maxHeartbeats 1000000 in
theorem rnorm_calls (x : Int) (w : World) : Calls Tryd.prog 16 #[.int .i64 x] w fun e w' => e = .returned (.int .i64 (normI x)) ∧ Fr No w w' := by
  rcases (show x < 0 ∨ (0 ≤ x ∧ 4611686018427387906 < x) ∨ (0 ≤ x ∧ x ≤ 4611686018427387906) by omega) with h | ⟨h1, h2⟩ | ⟨h1, h2⟩
  · have e : normI x = 0 := by unfold normI; rw [if_pos h]
    go_enter Tryd.func16, Tryd.ntmps16
    go_wp2
    go_ret
    exact ⟨ret_int (by rw [e]), Fr.refl _ _⟩
  · have e : normI x = 4611686018427387906 := by unfold normI; rw [if_neg (by omega), if_pos h2]
    go_enter Tryd.func16, Tryd.ntmps16
    go_wp2
    go_ret
    exact ⟨ret_int (by rw [e]), Fr.refl _ _⟩
  · have e : normI x = x := by unfold normI; rw [if_neg (by omega), if_neg (by omega)]
    go_enter Tryd.func16, Tryd.ntmps16
    go_wp2
    go_ret
    exact ⟨ret_int (by rw [e]), Fr.refl _ _⟩

end Go.Proofs.YthflnhnhdgegdaaDoor
