/- Both indices behind links that are set: the laws' 'Made'; walked. -/
import Derived.Test.YtlncmnphjdeeoaaDoorOf
import Derived.Test.YtlncmnphjdeeoaaDoorRef
import Derived.StillTailTactics
set_option linter.unusedVariables false
set_option linter.unusedSimpArgs false
namespace Go.Proofs.YtlncmnphjdeeoaaDoor
open Go.RowKit Go.Deep

/-- A link. -/
structure Lk where
  t : Int
  h : Int
  e : En

structure LkAt (w : World) (b o : Nat) (l : Lk) : Prop where
  t : w.cell? ⟨b, o, Option.none⟩ = some (.int .i64 l.t)
  h : w.cell? ⟨b, o + 1, Option.none⟩ = some (.int .i64 l.h)
  w0 : w.cell? ⟨b, o + 2, Option.none⟩ = some (.int .i64 l.e.w)
  a : w.cell? ⟨b, o + 2 + 1, Option.none⟩ = some (.int .i64 l.e.a)
  m : w.cell? ⟨b, o + 2 + 2, Option.none⟩ = some (.int .i64 l.e.m)
theorem LkAt.fr {w w' : World} {b o : Nat} {l : Lk} (h : LkAt w b o l) {F : Nat → Prop} (hf : Fr F w w') (hb : ¬ F b) : LkAt w' b o l :=
  ⟨hf.cell_some h.t hb, hf.cell_some h.h hb, hf.cell_some h.w0 hb, hf.cell_some h.a hb, hf.cell_some h.m hb⟩

/-- A slice of links that is read. -/
def LinksF (w : World) (A : Option Addr) (n : Nat) (f : Nat → Lk) : Prop :=
  0 < n → ∃ b off, A = some ⟨b, off, none⟩ ∧ ∀ j, j < n → LkAt w b (off + j * 5) (f j)

/-- An index behind k links that are set. -/
def Ix.sets (x : Ix) (f : Nat → Lk) : Nat → Ix
  | 0 => x
  | k + 1 => (x.sets f k).setI (f k).t (f k).h (f k).e

theorem Ix.setI_n (x : Ix) (u v : Int) (e : En) : (x.setI u v e).n = x.n := by unfold Ix.setI; split <;> rfl
theorem Ix.setI_rk (x : Ix) (u v : Int) (e : En) : (x.setI u v e).rk = x.rk := by unfold Ix.setI; split <;> rfl
theorem Ix.setI_by (x : Ix) (u v : Int) (e : En) : (x.setI u v e).by_ = x.by_ := by unfold Ix.setI; split <;> rfl
theorem Ix.sets_n (x : Ix) (f : Nat → Lk) : ∀ k, (x.sets f k).n = x.n := by
  intro k
  induction k with
  | zero => rfl
  | succ k ih => simp only [Ix.sets, Ix.setI_n, ih]
theorem Ix.sets_rk (x : Ix) (f : Nat → Lk) : ∀ k, (x.sets f k).rk = x.rk := by
  intro k
  induction k with
  | zero => rfl
  | succ k ih => simp only [Ix.sets, Ix.setI_rk, ih]

set_option maxHeartbeats 1000000 in
theorem rank_law_calls (n num : Nat) (w : World) (hn : n ≤ 255) (hnum : (num : Int) ≤ 18446744073709551615) :
    Calls Tryd.prog 58 #[.int .u8 (n : Nat), .int .u64 (num : Nat)] w fun e w' => ∃ b, e = .returned (.slice (some ⟨b, 0, none⟩) (1 + n % 24) (1 + n % 24)) ∧ Fr No w w' ∧ w.heap.size ≤ b ∧
      Blk w' b (1 + n % 24) 3 (fun i => .int .i64 (rankOf (1 + n % 24) num i : Nat)) := by
  have h1 : n % 24 < 24 := Nat.mod_lt _ (by omega)
  go_enter Tryd.func58, Tryd.ntmps58
  go_wp2_with fail
  rw [show ((1 : Int) + (n : Int) % 24) = ((1 + n % 24 : Nat) : Int) by omega]
  refine (of_calls (1 + n % 24) num _ (by omega) (by omega) hnum).mono ?_
  rintro e w1 ⟨b, rfl, hf, hb, hblk⟩
  go_wp2
  go_ret
  exact ⟨b, rfl, hf, hb, hblk⟩

/-- The order of a number as an inverse pair. -/
theorem rank_perm (n num : Nat) (h0 : 0 < n) (h1 : n ≤ 24) : PermF n (fun i => ((rankOf n num i : Nat) : Int)) :=
  ⟨h1, fun j hj => by have := rankOf_lt n num j hj; show (0 : Int) ≤ (rankOf n num j : Nat) ∧ ((rankOf n num j : Nat) : Int) < n; omega, fun i j hij hj e => by have e' : ((rankOf n num i : Nat) : Int) = (rankOf n num j : Nat) := e; have := rankOf_inj n num i j (by omega) hj (by omega); omega⟩

/-- An index of the order of a number, without entries. -/
noncomputable def Ix.start (n num : Nat) : Ix := Ix.new n (fun i => ((rankOf n num i : Nat) : Int)) (if h : 0 < n ∧ n ≤ 24 then Classical.choose (rank_perm n num h.1 h.2).inv else fun _ => 0)

set_option maxRecDepth 100000 in
set_option maxHeartbeats 2000000 in
theorem made_calls (n num : Nat) (A : Option Addr) (ln cp : Nat) (lk : Nat → Lk) (w : World) (hn : n ≤ 255) (hnum : (num : Int) ≤ 18446744073709551615) (hl : LinksF w A ln lk) (hln : ln ≤ 140737488351232) (hN : NoneVar w) :
    Calls Tryd.prog 15 #[.int .u8 (n : Nat), .int .u64 (num : Nat), .slice A ln cp] w fun e w' => ∃ (L : IxLoc) (R : RxLoc), e = .returned (.tuple #[.pointer (some ⟨L.b, 0, none⟩), .pointer (some ⟨R.b, 0, none⟩)]) ∧ Fr No w w' ∧
      IxMem w' L ((Ix.start (1 + n % 24) num).sets lk (min ln 300)) ∧ RxMem w' R ((Ix.start (1 + n % 24) num).sets lk (min ln 300)) ∧
      w.heap.size ≤ L.b ∧ w.heap.size ≤ L.br ∧ w.heap.size ≤ L.bb ∧ L.b < R.b ∧ L.br < R.b ∧ L.bb < R.b ∧ L.b < R.br ∧ L.br < R.br ∧ L.bb < R.br ∧ L.cb = 1 + n % 24 := by
  have hmod : n % 24 < 24 := Nat.mod_lt _ (by omega)
  have hd := rank_perm (1 + n % 24) num (by omega) (by omega)
  have hg := Classical.choose_spec hd.inv
  have hst : Ix.start (1 + n % 24) num = Ix.new (1 + n % 24) (fun i => ((rankOf (1 + n % 24) num i : Nat) : Int)) (Classical.choose hd.inv) := by
    unfold Ix.start; rw [dif_pos ⟨by omega, by omega⟩]
  rw [hst]
  have HD := hid hd
  have HG := hid hg
  have HL := hid hl
  have HN := hid hN
  clear hst hl hN
  go_enter Tryd.func15, Tryd.ntmps15
  go_wp2_with (first
    | (go_at_call 58; refine (rank_law_calls _ _ _ hn hnum).mono ?_; rintro e w1 ⟨b, rfl, hf1, hb1, hblk⟩; have HF1 := hid hf1; have HB := hid hblk; clear hf1 hblk)
    | (go_at_call 26; refine (new_yes _ _ _ (fun i => ((rankOf (1 + n % 24) num i : Nat) : Int)) _ (fun _ => ⟨b, 0, rfl, fun j hj => by rw [Nat.zero_add]; exact HB.out.cell hj⟩) (by omega) HD.out _ HG.out.1 HG.out.2 (HN.out.fr HF1.out (fun h => h))).mono ?_; rintro e w2 ⟨L, rfl, hf2, hx, hl1, hl2, hl3, hcb⟩; have HF2 := hid hf2; have HX := hid hx; have HCB := hid hcb; clear hf2 hx hcb)
    | (go_at_call 28; refine (rnew_calls b 0 _ _ (fun i => ((rankOf (1 + n % 24) num i : Nat) : Int)) _ (fun j hj => by rw [Nat.zero_add]; exact HF2.out.cell_some (HB.out.cell hj) (fun h => h)) (by omega) HD.out _ HG.out.1 HG.out.2).mono ?_; rintro e w3 ⟨R, rfl, hf3, hr, hl4, hl5⟩; have HF3 := hid hf3; have HR := hid hr; clear hf3 hr))
  have hf : Fr No w w3 := (HF1.out.trans HF2.out).trans HF3.out
  have hs1 := HF1.out.size
  have hs2 := HF2.out.size
  have hs3 := HF3.out.size
  have hx3 := HX.out.no HF3.out
  have p1 := HX.out.lt
  have p2 := HX.out.hr.1
  have p3 := HX.out.hb.1
  have g0 := HN.out.lt
  have p4 : 0 ≠ R.b := by omega
  have p5 : 0 ≠ R.br := by omega
  have HF := hid hf
  have HX3 := hid hx3
  clear hf hx3
  go_loopw [12] (fun i wr => ∃ k : Nat, k ≤ ln ∧ k ≤ 300 ∧ i = .int .i64 k ∧ Fr No w wr ∧ IxMem wr L ((Ix.new (1 + n % 24) (fun i => ((rankOf (1 + n % 24) num i : Nat) : Int)) (Classical.choose hd.inv)).sets lk k) ∧
      RxMem wr R ((Ix.new (1 + n % 24) (fun i => ((rankOf (1 + n % 24) num i : Nat) : Int)) (Classical.choose hd.inv)).sets lk k)) (fun i _ => ln - (intOf i).toNat)
  case atStart => exact ⟨0, Nat.zero_le _, Nat.zero_le _, rfl, HF.out, HX3.out, HR.out⟩
  case round =>
    obtain ⟨k, hk, hk3, rfl, hf, hx, hr⟩ := hrel
    have HF := hid hf
    have HX := hid hx
    have HR := hid hr
    clear hf hx hr
    by_cases hlt : k < ln
    · by_cases hlt3 : k < 300
      · obtain ⟨bl, ol, rfl, hc⟩ := HL.out (by omega)
        have HC := hid (hc k hlt)
        obtain ⟨c0, c1, c2, c3, c4⟩ := HC.out.fr HF.out (fun h => h)
        clear hc
        go_wp2
        go_still_tail 16, (by kernel_rfl)
        go_wp2_with (go_at_call 29; refine (set_calls HX.out.drew _ _ (lk k).e).mono ?_; rintro e w4 ⟨rfl, hx4, hf4⟩; have HX4 := hid hx4; have HF4 := hid hf4; clear hx4 hf4)
        have hfw4 : Fr No w w4 := HF.out.drew.trans' HF4.out (fun i hi (h : i = L.b) => by omega)
        have hr4 : RxMem w4 R _ := HR.out.drew.fr HF4.out (fun (h : R.b = L.b) => by omega) (fun (h : R.br = L.b) => by omega)
        have HFW4 := hid hfw4
        have HR4 := hid hr4
        clear hfw4 hr4 c0 c1 c2 c3 c4
        obtain ⟨c0, c1, c2, c3, c4⟩ := HC.out.fr HFW4.out (fun h => h)
        go_still_tail 16, (by kernel_rfl)
        go_wp2_with (go_at_call 30; refine (rset_calls HR4.out.drew _ _ (lk k).e).mono ?_; rintro e w5 ⟨rfl, hr5, hf5⟩; have HR5 := hid hr5; have HF5 := hid hf5; clear hr5 hf5)
        go_roundw
        case rel =>
          refine ⟨k + 1, hlt, hlt3, by go_num, HFW4.out.drew.trans' HF5.out (fun i hi (h : i = R.b) => by omega), HX4.out.drew.fr HF5.out (fun (h : L.b = R.b) => by omega) (fun (h : L.br = R.b) => by omega) (fun (h : L.bb = R.b) => by omega) (fun (h : _ = R.b) => p4 h), HR5.out⟩
        case measure => simp [intOf]; omega
      · have e : k = min ln 300 := by omega
        have HE := hid e
        clear e
        go_wp2
        go_ret2
        exact ⟨L, R, rfl, HF.out, HE.out ▸ HX.out, HE.out ▸ HR.out, by omega, by omega, by omega, by omega, by omega, by omega, by omega, by omega, by omega, HCB.out⟩
    · have e : k = min ln 300 := by omega
      have HE := hid e
      clear e
      go_wp2
      go_ret2
      exact ⟨L, R, rfl, HF.out, HE.out ▸ HX.out, HE.out ▸ HR.out, by omega, by omega, by omega, by omega, by omega, by omega, by omega, by omega, by omega, HCB.out⟩

end Go.Proofs.YtlncmnphjdeeoaaDoor
