/- Sets of numbers as they are kept: the first, without one, below, of a list, how many, and all of them, rising; walked. -/
import Derived.Shelf.Spec.TrailingZeros
import Derived.StillTail
import Derived.Test.YtoepbhacpidcbaaGreatDoorQBase
import Derived.Test.YtoepbhacpidcbaaGreatDoorQIdx
import Derived.Test.YtoepbhacpidcbaaGreatDoorQPerm
import Derived.Test.YtoepbhacpidcbaaGreatDoorQIdxB
import Derived.Test.YtoepbhacpidcbaaGreatDoorQRef
import Derived.Test.YtoepbhacpidcbaaGreatDoorQUnref
import Derived.Test.YtoepbhacpidcbaaGreatDoorQItr
import Derived.Test.YtoepbhacpidcbaaGreatDoorQUnE
import Derived.Test.YtoepbhacpidcbaaGreatDoorQDst
import Derived.Test.YtoepbhacpidcbaaGreatDoorQLnk
import Derived.Test.YtoepbhacpidcbaaGreatDoorQLks
import Derived.Test.YtoepbhacpidcbaaGreatDoorQMid
import Derived.Test.YtoepbhacpidcbaaGreatDoorQBig
import Derived.Test.YtoepbhacpidcbaaGreatDoorQCp2
import Derived.Test.YtoepbhacpidcbaaGreatDoorQGoes
import Derived.Test.YtoepbhacpidcbaaGreatDoorQGOps
import Derived.Test.YtoepbhacpidcbaaGreatDoorQGB
import Derived.Test.YtoepbhacpidcbaaGreatDoorQG8
import Derived.Test.YtoepbhacpidcbaaGreatDoorQWh
import Derived.Test.YtoepbhacpidcbaaGreatDoorQDMov
import Derived.Test.YtoepbhacpidcbaaGreatDoorQWk

set_option linter.unusedVariables false
set_option linter.unusedSimpArgs false
namespace Go.Proofs.YtoepbhacpidcbaaGreatDoor
open Go.RowKit Go.Shelf Go.Deep

/-- The library's table of places. -/
def TzVar (w : World) : Prop := TabAt 1 Lib.deBruijn64tab w
theorem TzVar.fr {w w' : World} (h : TzVar w) {F : Nat → Prop} (hf : Fr F w w') (hF : ¬ F 1) : TzVar w' := fun j hj => hf.cell_some (h j hj) hF
theorem TzVar.no {w w' : World} (h : TzVar w) (hf : Fr No w w') : TzVar w' := h.fr hf (fun h => h)
theorem TzVar.lt {w : World} (h : TzVar w) : 1 < w.heap.size := World.block_lt_of_cell? w _ (h 0 (by decide))

set_option maxRecDepth 100000 in
set_option maxHeartbeats 2000000 in
theorem tz_calls (x : Nat) (hx : x < 18446744073709551616) (h0 : x ≠ 0) (w : World) (hT : TzVar w) :
    Calls Tryz.prog 163 #[.int .u64 (x : Nat)] w fun e w' => e = .returned (.int .i64 (Lib.ctz 64 x : Nat)) ∧ Fr No w w' := by
  obtain ⟨hlow, hk⟩ := Lib.lowest_bit 64 x h0 hx
  obtain ⟨hi, htab⟩ := Lib.deBruijn64_at _ hk
  have hcell := hT _ hi
  rw [htab] at hcell
  have key := tz64_key x _ hx h0 hlow
  obtain ⟨idx, hidx⟩ : ∃ i, 2 ^ Lib.ctz 64 x * 285870213051353865 % 18446744073709551616 / 288230376151711744 = i := ⟨_, rfl⟩
  rw [hidx] at key hi hcell
  obtain ⟨k, hkk⟩ : ∃ k, Lib.ctz 64 x = k := ⟨_, rfl⟩
  rw [hkk] at hcell hk ⊢
  have hx0 : ((x : Int) == 0) = false := by simp; omega
  have hi2 : (idx : Int) < 64 := by omega
  clear hidx hkk htab hlow hT h0
  go_enter Tryz.func163, Tryz.ntmps163
  go_wp2_with (simp only [key])
  go_ret
  exact ⟨rfl, Fr.refl _ _⟩

/-- The lowest bit. -/
theorem ctz_form {s : Nat} (h0 : s ≠ 0) (hs : s < 2 ^ 64) : ∃ m, s = 2 ^ Lib.ctz 64 s * (2 * m + 1) := by
  obtain ⟨m, e, _⟩ := Lib.ctzFrom_spec 64 s (Nat.pos_of_ne_zero h0) hs
  refine ⟨m, ?_⟩
  have : Lib.ctz 64 s = Lib.ctzFrom 64 s := if_neg h0
  rw [this]; exact e
theorem ctz_bits {s : Nat} (h0 : s ≠ 0) (hs : s < 2 ^ 64) : s.testBit (Lib.ctz 64 s) = true ∧ (∀ i, i < Lib.ctz 64 s → s.testBit i = false) ∧ ∀ i, (s &&& (s - 1)).testBit i = (s.testBit i && decide (i ≠ Lib.ctz 64 s)) := by
  obtain ⟨m, hm⟩ := ctz_form h0 hs
  obtain ⟨c, hc⟩ : ∃ c, Lib.ctz 64 s = c := ⟨_, rfl⟩
  rw [hc] at hm ⊢
  have hp : 0 < 2 ^ c := Nat.two_pow_pos c
  have hm1 : s - 1 = 2 ^ c * (2 * m) + (2 ^ c - 1) := by
    rw [hm, Nat.mul_add, Nat.mul_one]; omega
  have b1 : ∀ i, s.testBit i = (decide (i ≥ c) && (2 * m + 1).testBit (i - c)) := fun i => by rw [hm, Nat.testBit_two_pow_mul]
  have b2 : ∀ i, (s - 1).testBit i = if i < c then (2 ^ c - 1).testBit i else (2 * m).testBit (i - c) := fun i => by
    rw [hm1, Nat.testBit_two_pow_mul_add _ (by omega)]
  have hodd : (2 * m + 1).testBit 0 = true := by simp [Nat.testBit_zero]
  refine ⟨?_, fun i hi => ?_, fun i => ?_⟩
  · rw [b1, decide_eq_true (Nat.le_refl c), Nat.sub_self, hodd]; rfl
  · rw [b1, decide_eq_false (by omega)]; rfl
  · rw [Nat.testBit_and, b1, b2]
    rcases Nat.lt_trichotomy i c with h | h | h
    · rw [decide_eq_false (by omega)]; rfl
    · subst h
      rw [if_neg (by omega), Nat.sub_self, show (2 * m).testBit 0 = false by simp [Nat.testBit_zero]]; simp
    · rw [if_neg (by omega), decide_eq_true (by omega), decide_eq_true (show i ≠ c by omega), Bool.true_and, Bool.and_true]
      obtain ⟨d, rfl⟩ : ∃ d, i = c + 1 + d := ⟨i - c - 1, by omega⟩
      rw [show c + 1 + d - c = d + 1 by omega, Nat.testBit_succ, Nat.testBit_succ, show (2 * m + 1) / 2 = m by omega, show 2 * m / 2 = m by omega, Bool.and_self]
theorem SetOf.zero_iff {s : Nat} {p : Nat → Prop} (h : SetOf s p) : s = 0 ↔ ∀ i, ¬ p i := by
  constructor
  · intro e i hi
    have := (h.bit i).2 hi
    rw [e, Nat.zero_testBit] at this; cases this
  · intro hn
    exact Nat.eq_of_testBit_eq fun i => by
      rw [Nat.zero_testBit, ← Bool.not_eq_true]
      exact fun hb => hn i ((h.bit i).1 hb)
theorem lt64 {s : Nat} (hs : s < 2 ^ 24) : s < 2 ^ 64 := Nat.lt_of_lt_of_le hs (by decide)
/-- The first of a set. -/
theorem SetOf.flo {s n : Nat} {q : Nat → Bool} (h : SetOf s (fun r => r < n ∧ q r = true)) : (s = 0 ∧ flo q n = n) ∨ (s ≠ 0 ∧ flo q n < n ∧ Lib.ctz 64 s = flo q n) := by
  by_cases h0 : s = 0
  · refine .inl ⟨h0, flo_none fun r hr => ?_⟩
    rw [← Bool.not_eq_true]
    exact fun hq => h.zero_iff.1 h0 r ⟨hr, hq⟩
  · obtain ⟨h1, h2, _⟩ := ctz_bits h0 (lt64 h.lt)
    obtain ⟨c, hc⟩ : ∃ c, Lib.ctz 64 s = c := ⟨_, rfl⟩
    rw [hc] at h1 h2
    have hp := (h.bit c).1 h1
    have := flo_uniq hp.1 hp.2 (fun i hi => by
      rw [← Bool.not_eq_true]
      intro hq
      have := (h.bit i).2 ⟨by omega, hq⟩
      rw [h2 i hi] at this; cases this)
    exact .inr ⟨h0, by omega, by omega⟩

set_option maxRecDepth 100000 in
set_option maxHeartbeats 2000000 in
theorem first_calls {s n : Nat} {q : Nat → Bool} (h : SetOf s (fun r => r < n ∧ q r = true)) (w : World) (hT : TzVar w) :
    Calls Tryz.prog 86 #[.int .u64 (s : Nat)] w fun e w' => e = .returned (.tuple #[.int .i64 (if flo q n < n then flo q n else 0 : Nat), .bool (decide (flo q n < n))]) ∧ Fr No w w' := by
  rcases h.flo with ⟨rfl, hf⟩ | ⟨h0, hf, hc⟩
  · rw [if_neg (by omega), decide_eq_false (by omega)]
    go_enter Tryz.func86, Tryz.ntmps86
    go_wp2
    go_ret2
    exact ⟨rfl, Fr.refl _ _⟩
  · rw [if_pos hf, decide_eq_true hf]
    have hs0 : ((s : Int) == 0) = false := by simp; omega
    have hc2 := tz_calls s (lt64 h.lt) h0 w hT
    rw [hc] at hc2
    have HC := hid hc2
    clear hc2 hc hT
    go_enter Tryz.func86, Tryz.ntmps86
    go_wp2_with fail
    refine HC.out.mono ?_
    rintro e w1 ⟨rfl, hf⟩
    go_wp2
    go_ret2
    exact ⟨rfl, hf⟩

theorem bits_andNot_u64 (a b : Nat) (ha : a < 18446744073709551616) (hb : b < 18446744073709551616) : bits .andNot .u64 (a : Int) (b : Int) = (((BitVec.ofNat 64 a &&& ~~~ (BitVec.ofNat 64 b)).toNat : Nat) : Int) := by
  show IntKind.u64.wrap ((BitVec.ofInt 64 (a : Int) &&& ~~~ (BitVec.ofInt 64 (b : Int))).toNat : Int) = _
  rw [BitVec.ofInt_natCast, BitVec.ofInt_natCast, IntKind.wrap_u64]
  have := (BitVec.ofNat 64 a &&& ~~~ (BitVec.ofNat 64 b)).isLt
  omega
/-- Without a number. -/
theorem SetOf.without {s x : Nat} {p q : Nat → Prop} (h : SetOf s p) (hx : x < 64) (hq : ∀ i, q i ↔ (p i ∧ i ≠ x)) : ∃ t : Nat, bits .andNot .u64 (s : Int) ((2 ^ x : Nat) : Int) = (t : Int) ∧ SetOf t q := by
  have hs := lt64 h.lt
  have h2 : 2 ^ x < 2 ^ 64 := Nat.pow_lt_pow_right (by decide) hx
  have hb : ∀ i, ((BitVec.ofNat 64 s &&& ~~~ (BitVec.ofNat 64 (2 ^ x))).toNat).testBit i = (s.testBit i && decide (i ≠ x)) := fun i => by
    rw [BitVec.testBit_toNat, BitVec.getLsbD_and, BitVec.getLsbD_not, BitVec.getLsbD_ofNat, BitVec.getLsbD_ofNat, Nat.testBit_two_pow]
    by_cases hi : i < 64
    · by_cases e : x = i
      · subst e; simp
      · simp [hi, e, Ne.symm e]
    · have : s.testBit i = false := Nat.testBit_lt_two_pow (Nat.lt_of_lt_of_le hs (Nat.pow_le_pow_right (by decide) (by omega)))
      rw [this]; simp
  refine ⟨_, bits_andNot_u64 s (2 ^ x) hs h2, ⟨Nat.lt_pow_two_of_testBit _ fun i hi => ?_, fun i => ?_⟩⟩
  · rw [hb, Nat.testBit_lt_two_pow (Nat.lt_of_lt_of_le h.lt (Nat.pow_le_pow_right (by decide) hi))]; rfl
  · rw [hb, Bool.and_eq_true, decide_eq_true_eq, h.bit, hq]

theorem wrap_pow64 {x : Nat} (hx : x < 64) : IntKind.u64.wrap (2 ^ x) = ((2 ^ x : Nat) : Int) := by
  have h2 : 2 ^ x < 2 ^ 64 := Nat.pow_lt_pow_right (by decide) hx
  rw [cast_pow, IntKind.wrap_u64]
  obtain ⟨p, hp⟩ : ∃ p, 2 ^ x = p := ⟨_, rfl⟩
  rw [hp] at h2 ⊢
  omega
set_option maxRecDepth 100000 in
set_option maxHeartbeats 1000000 in
theorem bit64_calls (x : Nat) (hx : x < 64) (w : World) : Calls Tryz.prog 88 #[.int .i64 (x : Nat)] w fun e w' => e = .returned (.int .u64 ((2 ^ x : Nat) : Int)) ∧ Fr No w w' := by
  have hx2 : (x : Int) < 64 := by omega
  have hx3 : ¬ (x : Int) < 0 := by omega
  go_enter Tryz.func88, Tryz.ntmps88
  go_wp2
  go_ret
  exact ⟨ret_int (wrap_pow64 hx), Fr.refl _ _⟩

set_option maxRecDepth 100000 in
set_option maxHeartbeats 1000000 in
theorem without_calls2 {s x t : Nat} (ht : bits .andNot .u64 (s : Int) ((2 ^ x : Nat) : Int) = (t : Int)) (hx : x < 64) (w : World) : Calls Tryz.prog 200 #[.int .u64 (s : Nat), .int .i64 (x : Nat)] w fun e w' => e = .returned (.int .u64 (t : Nat)) ∧ Fr No w w' := by
  have HT := hid ht
  clear ht
  go_enter Tryz.func200, Tryz.ntmps200
  go_wp2_with fail
  refine (bit64_calls x hx _).mono ?_
  rintro e w1 ⟨rfl, hf⟩
  go_wp2
  go_ret
  exact ⟨ret_int HT.out, hf⟩

theorem below_bits {n i : Nat} (hn : n ≤ 24) : (2 ^ n - 1).testBit i = true ↔ i < n := by rw [Nat.testBit_two_pow_sub_one]; simp
set_option maxRecDepth 100000 in
set_option maxHeartbeats 1000000 in
theorem below_calls (n : Nat) (hn : 0 < n) (hn2 : n ≤ 24) (w : World) : Calls Tryz.prog 145 #[.int .i64 (n : Nat)] w fun e w' => e = .returned (.int .u64 ((2 ^ n - 1 : Nat) : Int)) ∧ Fr No w w' := by
  have h1 : ¬ (n : Int) ≤ 0 := by omega
  have h2 : ¬ (64 : Int) ≤ n := by omega
  have h3 : 2 ^ n ≤ 2 ^ 24 := Nat.pow_le_pow_right (by decide) hn2
  have h4 : 0 < 2 ^ n := Nat.two_pow_pos n
  have h5 : IntKind.u64.wrap (((2 ^ n : Nat) : Int) - 1) = ((2 ^ n - 1 : Nat) : Int) := by rw [IntKind.wrap_u64]; omega
  go_enter Tryz.func145, Tryz.ntmps145
  go_wp2_with fail
  refine (bit64_calls n (by omega) _).mono ?_
  rintro e w1 ⟨rfl, hf⟩
  go_wp2
  go_ret
  exact ⟨ret_int h5, hf⟩

/-- The numbers of a set, rising. -/
abbrev BitEl (s : Nat) := { x : Nat // s.testBit x = true }
def sbTo (s : Nat) : Nat → List (BitEl s)
  | 0 => []
  | k + 1 => if h : s.testBit k = true then sbTo s k ++ [⟨k, h⟩] else sbTo s k
def sbs (s : Nat) : List (BitEl s) := sbTo s 24
def sbEnc (s : Nat) (el : BitEl s) : Array Value := #[.int .i64 (el.1 : Nat)]
theorem sbTo_succ (s k : Nat) : sbTo s (k + 1) = if h : s.testBit k = true then sbTo s k ++ [⟨k, h⟩] else sbTo s k := rfl
theorem sbTo_skip (s k : Nat) : ∀ d, (∀ i, k ≤ i → i < k + d → s.testBit i = false) → sbTo s (k + d) = sbTo s k
  | 0, _ => rfl
  | d + 1, h => by
    rw [← Nat.add_assoc, sbTo_succ, dif_neg (by rw [h (k + d) (by omega) (by omega)]; simp)]
    exact sbTo_skip s k d (fun i h1 h2 => h i h1 (by omega))
theorem sbTo_pre (s k : Nat) : ∀ d, sbTo s k <+: sbTo s (k + d)
  | 0 => List.prefix_refl _
  | d + 1 => by
    rw [← Nat.add_assoc, sbTo_succ]
    split
    · exact (sbTo_pre s k d).trans (List.prefix_append _ _)
    · exact sbTo_pre s k d
theorem sbTo_mem (s : Nat) : ∀ k (el : BitEl s), el ∈ sbTo s k ↔ el.1 < k
  | 0, el => by simp [sbTo]
  | k + 1, el => by
    rw [sbTo_succ]
    split
    · rename_i h
      rw [List.mem_append, sbTo_mem s k, List.mem_singleton]
      constructor
      · rintro (h1 | rfl)
        · omega
        · exact Nat.lt_succ_self _
      · intro h1
        rcases Nat.lt_or_ge el.1 k with h2 | h2
        · exact .inl h2
        · exact .inr (Subtype.ext (by show el.1 = k; omega))
    · rename_i h
      rw [sbTo_mem s k]
      constructor
      · omega
      · intro h1
        rcases Nat.lt_or_ge el.1 k with h2 | h2
        · exact h2
        · have : el.1 = k := by omega
          exact absurd (by rw [← this]; exact el.2) h
/-- The set as a list of numbers. -/
theorem sbTo_map (s : Nat) : ∀ k, (sbTo s k).map (fun el => el.1) = (List.range k).filter (fun i => s.testBit i)
  | 0 => rfl
  | k + 1 => by
    rw [sbTo_succ, List.range_succ, List.filter_append]
    split
    · rename_i h
      rw [List.map_append, sbTo_map s k, List.filter_cons_of_pos h]; rfl
    · rename_i h
      rw [sbTo_map s k, List.filter_cons_of_neg h]; simp

set_option maxRecDepth 100000 in
set_option maxHeartbeats 4000000 in
theorem sall1_any (s : Nat) (hs : s < 2 ^ 24) (m : Nat) (hm : 1 ≤ m) (Bs : Nat) (F : Nat → Prop) (f1 : ¬ F 1) (w : World) (hT : TzVar w)
    (hc : w.cell? ⟨Bs, 0, none⟩ = some (.int .u64 (s : Nat))) :
    SeqStopsK Fence.wide m Tryz.prog 205 #[.pointer (some ⟨Bs, 0, none⟩)] (sbEnc s) (Fr F) (fun ys => ys = sbs s) (fun pre => pre <+: sbs s) (sbs s).length w := fun l J Jx W hW hJ hJx hY h0 => by
  have hf0 := Fr.of_below hW
  have HT := hid (hT.no hf0)
  have hc' := hf0.cell_some hc (fun h => h)
  have HJ := hid hJ
  have HY := hid hY
  have H0 := hid h0
  have hs64 : s < 18446744073709551616 := lt64 hs
  clear hW hJ hJx hY h0 hT hc hf0
  refine callsIn_of_wp Tryz.func205 rfl trivial ?_ rfl
  simp only [Tryz.ntmps205, List.size_toArray, List.length_cons, List.length_nil, Nat.reduceAdd, Nat.reduceSub, Array.replicate_succ, Array.replicate_zero, List.push_toArray, List.append_toArray, List.nil_append, List.cons_append]
  gi_wp2
  clear hc'
  gi_loopw [3] (fun i wr => ∃ k t : Nat, k ≤ 24 ∧ i = .int .u64 (t : Nat) ∧ t < 2 ^ 24 ∧ (∀ j, t.testBit j = (s.testBit j && decide (k ≤ j))) ∧ J (sbTo s k) wr ∧ Fr F W wr) (fun i _ => (intOf i).toNat)
  case atStart => exact ⟨0, s, by omega, rfl, hs, fun j => by simp, H0.out, Fr.refl _ _⟩
  case round =>
    obtain ⟨k, t, hk, rfl, ht, hb, hj, hf⟩ := hrel
    have HB := hid hb
    have HJK := hid hj
    have HF := hid hf
    have HTr := hid (HT.out.fr hf f1)
    clear hb hj hf
    by_cases h0 : t = 0
    · subst h0
      have hend : sbTo s k = sbs s := by
        have := sbTo_skip s k (24 - k) (fun i h1 _ => by
          have := HB.out i
          rw [Nat.zero_testBit, decide_eq_true h1, Bool.and_true] at this
          exact this.symm)
        rw [show k + (24 - k) = 24 by omega] at this
        exact this.symm
      gi_wp2
      go_end0
      exact ⟨⟨_, rfl⟩, .inl ⟨_, hend, HJK.out⟩⟩
    · have ht0 : ((t : Int) != 0) = true := by simp; omega
      have ht1 : ((t : Int) == 0) = false := by simp; omega
      obtain ⟨c1, c2, c3⟩ := ctz_bits h0 (lt64 ht)
      have hS : SetOf t (fun r => r < 24 ∧ t.testBit r = true) := ⟨ht, fun i => ⟨fun h => ⟨(by
        rcases Nat.lt_or_ge i 24 with h' | h'
        · exact h'
        · rw [Nat.testBit_lt_two_pow (Nat.lt_of_lt_of_le ht (Nat.pow_le_pow_right (by decide) h'))] at h
          cases h), h⟩, fun h => h.2⟩⟩
      have hfl : flo t.testBit 24 = Lib.ctz 64 t ∧ flo t.testBit 24 < 24 := by
        rcases hS.flo with ⟨e, _⟩ | ⟨_, h1, h2⟩
        · exact absurd e h0
        · exact ⟨h2.symm, h1⟩
      have hfc := first_calls hS wr HTr.out
      obtain ⟨c, hcc⟩ : ∃ c, Lib.ctz 64 t = c := ⟨_, rfl⟩
      rw [hcc] at c1 c2 c3 hfl
      rw [if_pos hfl.2, decide_eq_true hfl.2, hfl.1] at hfc
      have hc24 : c < 24 := by omega
      have hsc : s.testBit c = true := by
        rw [HB.out c, Bool.and_eq_true] at c1; exact c1.1
      have hkc : k ≤ c := by
        rw [HB.out c, Bool.and_eq_true, decide_eq_true_eq] at c1; exact c1.2
      have hnext : sbTo s (c + 1) = sbTo s k ++ [⟨c, hsc⟩] := by
        have := sbTo_skip s k (c - k) (fun i h1 h2 => by
          have h3 := c2 i (by omega)
          rw [HB.out i, decide_eq_true h1, Bool.and_true] at h3
          exact h3)
        rw [show k + (c - k) = c by omega] at this
        rw [sbTo_succ, dif_pos hsc, this]
      have hpre : sbTo s (c + 1) <+: sbs s := by
        have := sbTo_pre s (c + 1) (24 - (c + 1))
        rwa [show c + 1 + (24 - (c + 1)) = 24 by omega] at this
      have hlen : (sbTo s k).length < (sbs s).length := by
        have := hpre.length_le
        rw [hnext] at this
        simp at this; omega
      have hand : bits BinOp.and IntKind.u64 (t : Nat) ((t : Int) - 1) = ((t &&& (t - 1) : Nat) : Int) := by
        rw [show ((t : Int) - 1) = ((t - 1 : Nat) : Int) by omega]
        exact bits_and_u64_nat _ _ (lt64 ht) (by have := lt64 ht; omega)
      have hlt2 : t &&& (t - 1) < t := by have := Nat.and_le_right (n := t) (m := t - 1); omega
      have hnb : ∀ j, (t &&& (t - 1)).testBit j = (s.testBit j && decide (c + 1 ≤ j)) := fun j => by
        rw [c3, HB.out]
        rcases Nat.lt_trichotomy j c with h | h | h
        · have := c2 j h
          rw [HB.out] at this
          rw [this, decide_eq_false (show ¬ c + 1 ≤ j by omega)]; simp
        · subst h; simp
        · rw [decide_eq_true (show k ≤ j by omega), decide_eq_true (show j ≠ c by omega), decide_eq_true (show c + 1 ≤ j by omega)]; simp
      obtain ⟨t', ht'⟩ : ∃ t', t &&& (t - 1) = t' := ⟨_, rfl⟩
      rw [ht'] at hand hlt2 hnb
      have HFC := hid hfc
      have HNX := hid hnext
      have HPRE := hid hpre
      have HNB := hid hnb
      have HAND := hid hand
      have hlt3 : t' < 2 ^ 24 := by omega
      have HYK : Hid (∀ w5, Fr No wr w5 → YieldAt Fence.wide (m - 1) Tryz.prog l #[.int .i64 (c : Nat)] w5 fun e W' => ∃ r : Bool, e = .returned (.bool r) ∧ ((r = true ∧ J (sbTo s (c + 1)) W' ∧ Fr F w5 W') ∨ (r = false ∧ Jx (sbTo s (c + 1)) W'))) := hid fun w5 h5 => by
        have := HY.out (sbTo s k) ⟨c, hsc⟩ w5 (HJ.out _ _ _ none HJK.out (fr_grownBy h5) (fun r h => by cases h)) hlen
        rw [sbEnc, ← HNX.out] at this
        refine this.mono ?_
        rintro e W' (⟨rfl, h1, h2⟩ | ⟨rfl, h1⟩)
        · exact ⟨true, rfl, .inl ⟨rfl, h1, h2⟩⟩
        · exact ⟨false, rfl, .inr ⟨rfl, h1⟩⟩
      clear c1 c2 c3 hS hfl hfc hkc hnext hpre hlen hnb hcc hand ht' h0
      gi_wp2
      refine ⟨trivial, callsIn_wide.2 (HFC.out.mono ?_)⟩
      rintro e w5 ⟨rfl, hf5⟩
      have HF5 := hid hf5
      obtain ⟨fn, tmps, assign, body, hy, hR⟩ := HYK.out w5 hf5
      clear hf5
      gi_wp2_with fail
      refine hR.mono ?_
      rintro e W6 ⟨r, rfl, hres⟩
      have HRES := hid hres
      clear hres hR hy HYK
      rcases HRES.out with ⟨rfl, hj6, hp6⟩ | ⟨rfl, hj6⟩
      · have HJ6 := hid hj6
        have HP6 := hid hp6
        clear hj6 hp6 HRES
        gi_wp2_with fail
        rw [HAND.out]
        go_roundw
        case rel => exact ⟨c + 1, t', by omega, rfl, hlt3, HNB.out, HJ6.out, HF.out.trans (HF5.out.no.trans HP6.out)⟩
        case measure => simp [intOf]; omega
      · have HJ6 := hid hj6
        clear hj6 HRES
        gi_wp2
        refine bodyPost_ret (results_none rfl _ _ _) rfl ?_
        exact ⟨⟨_, rfl⟩, .inr ⟨_, HPRE.out, HJ6.out⟩⟩

set_option maxRecDepth 100000 in
set_option maxHeartbeats 1000000 in
theorem sall_calls (s : Nat) (w : World) :
    Calls Tryz.prog 151 #[.int .u64 (s : Nat)] w fun e w' => e = .returned (.func (.func 205) #[] #[.pointer (some ⟨w.heap.size, 0, none⟩)]) ∧ Fr No w w' ∧ w.heap.size < w'.heap.size ∧ w'.cell? ⟨w.heap.size, 0, none⟩ = some (.int .u64 (s : Nat)) := by
  go_enter Tryz.func151, Tryz.ntmps151
  go_wp2
  go_ret
  exact ⟨rfl, (Fr.refl _ _).alloc _, by simp, by simp [go_sem]⟩

end Go.Proofs.YtoepbhacpidcbaaGreatDoor
