/- The order of a number, as the document reckons it; walked. -/
import Derived.Test.YtlncmnphjdeeoaaDoorOfPure
import Derived.Test.YtlncmnphjdeeoaaDoorPerm
set_option linter.unusedVariables false
set_option linter.unusedSimpArgs false
namespace Go.Proofs.YtlncmnphjdeeoaaDoor
open Go.RowKit Go.Deep

set_option maxHeartbeats 400000 in
theorem held_calls (n : Int) (w : World) (h0 : 0 ≤ n) (h1 : n ≤ 24) :
    Calls Tryd.prog 116 #[.int .i64 n] w fun e w' => e = .returned (.int .i64 n) ∧ w = w' := by
  go_enter Tryd.func116, Tryd.ntmps116
  go_wp2
  go_ret
  exact ⟨rfl, rfl⟩

theorem info_bool : (Tryd.prog.info? 4).map (fun i => (i.zero, i.size, i.bytes)) = some (some (.bool false), 1, 1) := by kernel_rfl

set_option maxRecDepth 100000 in
set_option maxHeartbeats 2000000 in
theorem of_calls (n num : Nat) (w : World) (h0 : 0 < n) (h1 : n ≤ 24) (hnum : (num : Int) ≤ 18446744073709551615) :
    Calls Tryd.prog 93 #[.int .i64 (n : Nat), .int .u64 (num : Nat)] w fun e w' => ∃ b, e = .returned (.slice (some ⟨b, 0, none⟩) n n) ∧ Fr No w w' ∧ w.heap.size ≤ b ∧
      Blk w' b n 3 (fun i => .int .i64 (rankOf n num i : Nat)) := by
  have hmk := fun w => run_make_row' (P := Tryd.prog) 29 3 (.int .i64 0) 8 Tryd.underlying29 info_int rfl .i64 .i64 n (by omega) (by omega) w
  have hmb := fun w => run_make_row' (P := Tryd.prog) 165 4 (.bool false) 1 Tryd.underlying165 info_bool rfl .i64 .i64 n (by omega) (by omega) w
  go_enter Tryd.func93, Tryd.ntmps93
  go_wp2_with (go_at_call 116; refine (held_calls _ _ (by omega) (by omega)).mono ?_; rintro e w1 ⟨rfl, rfl⟩)
  have HB1 := hid ((Blk.made w n (.int .i64 0) 3).alloc (.cells (madeCells #[.bool false] n) 4))
  have HB2 := hid (Blk.made (w.alloc (.cells (madeCells #[.int .i64 0] n) 3)) n (.bool false) 4)
  clear hmk hmb
  go_loopw [1, 7] (fun c i wr => ∃ r : Nat, r ≤ n ∧ i = .int .i64 r ∧ c = .int .u64 ((ofSt n num r).num : Nat) ∧ Fr No w wr ∧ Blk wr w.heap.size n 3 (fun i => .int .i64 ((ofSt n num r).out i : Nat)) ∧
      Blk wr (w.heap.size + 1) n 4 (fun i => .bool ((ofSt n num r).gone i))) (fun _ i _ => n - (intOf i).toNat)
  case atStart => exact ⟨0, Nat.zero_le _, rfl, rfl, ((Fr.refl _ _).alloc _).alloc _, HB1.out, by have := HB2.out; simp only [World.size_alloc] at this; exact this⟩
  case round =>
    obtain ⟨r, hr, rfl, rfl, hf, hb1, hb2⟩ := hrel
    by_cases hlt : r < n
    · have hm1 := ofSt_num_le n num r
      obtain ⟨x, hx, hxn, hgx, hst⟩ := ofNext n num r hlt
      have HF := hid hf
      have HB1 := hid hb1
      have HB2 := hid hb2
      have HX := hid hx
      have HST := hid hst
      have HGX := hid hgx
      obtain ⟨m, hm⟩ : ∃ m, m = (ofSt n num r).num := ⟨_, rfl⟩
      rw [← hm] at hm1 ⊢
      have HM := hid hm
      clear hf hb1 hb2 hx hst hgx hm
      have hq0 : (0 : Int) ≤ (m : Int) % ((n : Int) - (r : Int)) := Int.emod_nonneg _ (by omega)
      have hq1 : (m : Int) % ((n : Int) - (r : Int)) < (n : Int) - (r : Int) := Int.emod_lt_of_pos _ (by omega)
      have hq2 : (0 : Int) ≤ (m : Int) / ((n : Int) - (r : Int)) := Int.ediv_nonneg (by omega) (by omega)
      have hq3 : (m : Int) / ((n : Int) - (r : Int)) ≤ 18446744073709551615 := by
        have h1 : (m : Int) / ((n : Int) - (r : Int)) ≤ (m : Int) := Int.ediv_le_self _ (by omega)
        omega
      go_wp2
      go_loop [9, 10] (fun p q => ∃ v a : Nat, v ≤ n ∧ q = .int .i64 v ∧ p = .int .i64 a ∧ a ≤ 24 ∧ nth (ofSt n num r).gone (n - v) v a = some x) (fun _ q => n - (intOf q).toNat)
      case atStart =>
        refine ⟨0, m % (n - r), Nat.zero_le _, rfl, ?_, by have := Nat.mod_lt m (show 0 < n - r by omega); omega, ?_⟩
        · have : ((m : Int) % ((n : Int) - (r : Int))) = ((m % (n - r) : Nat) : Int) := by
            rw [Int.natCast_emod]; congr 1; omega
          rw [← this]
        · have := HX.out; rw [HM.out]; exact this
      case round =>
        obtain ⟨v, a, hv, rfl, rfl, ha24, hn⟩ := hrel
        by_cases hvn : v < n
        · have hcg := HB2.out.cell hvn
          have HN := hid hn
          clear hn
          have hstep : nth (ofSt n num r).gone (n - v) v a = if (ofSt n num r).gone v then nth (ofSt n num r).gone (n - (v + 1)) (v + 1) a else if a = 0 then some v else nth (ofSt n num r).gone (n - (v + 1)) (v + 1) (a - 1) := by
            obtain ⟨k, hk⟩ : ∃ k, n - v = k + 1 := ⟨n - v - 1, by omega⟩
            rw [hk, show n - (v + 1) = k by omega]; rfl
          have HS := hid hstep
          clear hstep
          cases hg : (ofSt n num r).gone v with
          | true =>
            rw [hg] at hcg
            have HG := hid hg
            clear hg
            go_wp2
            go_round
            case rel => exact ⟨v + 1, a, by omega, by go_num, rfl, ha24, by have h1 := HS.out; rw [HG.out, if_pos rfl] at h1; rw [← h1]; exact HN.out⟩
            case measure => simp [intOf]; omega
          | false =>
            rw [hg] at hcg
            have HG := hid hg
            clear hg
            by_cases ha : a = 0
            · subst ha
              obtain rfl : x = v := by
                have h1 := HS.out; have h2 := HN.out
                rw [h1, HG.out] at h2; simp at h2; exact h2.symm
              have hc1 := HB1.out.cell hvn
              have hf1 : ∀ i, wr.frozen? ⟨w.heap.size, i, none⟩ = false := fun i => HB1.out.frozen i
              have hf2 : ∀ i, wr.frozen? ⟨w.heap.size + 1, i, none⟩ = false := fun i => HB2.out.frozen i
              go_wp2
              go_roundw
              case rel =>
                refine ⟨r + 1, hlt, by go_num, ?_, (HF.out.setCell (p := ⟨w.heap.size, _, none⟩) (.inr (Nat.le_refl _)) _).setCell (p := ⟨w.heap.size + 1, _, none⟩) (.inr (Nat.le_succ _)) _, ?_, ?_⟩
                · rw [HST.out, HM.out]; congr 1; rw [Int.natCast_ediv]; congr 1; omega
                · rw [HST.out]
                  refine ((HB1.out.setCell x (.int .i64 r)).setCell_ne (p := ⟨w.heap.size + 1, _, none⟩) (by simp) _).congr fun i _ => ?_
                  simp only [upd, setN]; split <;> rfl
                · rw [HST.out]
                  refine ((HB2.out.setCell_ne (p := ⟨w.heap.size, _, none⟩) (by simp) _).setCell x (.bool true)).congr fun i _ => ?_
                  simp only [upd, setB]; split <;> rfl
              case measure => simp [intOf]; omega
            · have hpos : 1 ≤ a := by omega
              have HA := hid ha
              clear ha
              go_wp2
              go_round
              case rel => exact ⟨v + 1, a - 1, by omega, by go_num, by congr 1; omega, by omega, by have h1 := HS.out; rw [HG.out, if_neg (by simp), if_neg HA.out] at h1; rw [← h1]; exact HN.out⟩
              case measure => simp [intOf]; omega
        · have e : n - v = 0 := by omega
          rw [e] at hn; cases hn
    · have e : r = n := by omega
      have HE := hid e
      have HF := hid hf
      have HB1 := hid hb1
      clear hf hb1 hb2 e
      go_wp2
      go_ret
      exact ⟨_, rfl, HF.out, Nat.le_refl _, HB1.out.congr fun i hi => by rw [HE.out]; rfl⟩

end Go.Proofs.YtlncmnphjdeeoaaDoor
