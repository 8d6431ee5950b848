/- The document's index in memory; its small functions, walked. -/
import Derived.Test.YtlncmnphjdeeoaaDoorIdxE
set_option linter.unusedVariables false
set_option linter.unusedSimpArgs false
namespace Go.Proofs.YtlncmnphjdeeoaaDoor
open Go.RowKit Go.Deep

structure RxLoc where
  b : Nat
  br : Nat
  cr : Nat

def Ix.RV (x : Ix) (L : RxLoc) (i : Nat) : Value :=
  if i = 0 then .slice (some ⟨L.br, 0, Option.none⟩) x.n L.cr
  else .int .i64 ((x.ent ((i - 1) / 72) ((i - 1) % 72 / 3)).cell ((i - 1) % 3))

structure RxMem (w : World) (L : RxLoc) (x : Ix) : Prop where
  ok : x.Ok
  blk : Blk w L.b 1729 45 (x.RV L)
  rk : Nums w L.br x.n x.rk
  hr : L.br < w.heap.size ∧ L.br ≠ L.b

theorem RxMem.fr {w w' : World} {L : RxLoc} {x : Ix} (h : RxMem w L x) {F : Nat → Prop} (hf : Fr F w w') (h1 : ¬ F L.b) (h2 : ¬ F L.br) : RxMem w' L x :=
  ⟨h.ok, h.blk.fr hf h1, h.rk.of_fr hf h.hr.1 h2, ⟨Nat.lt_of_lt_of_le h.hr.1 hf.size, h.hr.2⟩⟩
theorem RxMem.no {w w' : World} {L : RxLoc} {x : Ix} (h : RxMem w L x) (hf : Fr No w w') : RxMem w' L x := h.fr hf (fun h => h) (fun h => h)
theorem RxMem.drewN {w : World} {L : RxLoc} {x : Ix} (h : RxMem w L x) (n : Nat) : RxMem (w.drewN n) L x := h.no (Fr.of_drewN n)
theorem RxMem.drew {w : World} {L : RxLoc} {x : Ix} (h : RxMem w L x) : RxMem w.drew L x := h.no (Fr.refl _ _).drew
theorem RxMem.alloc {w : World} {L : RxLoc} {x : Ix} (h : RxMem w L x) (o : Obj) : RxMem (w.alloc o) L x := h.no ((Fr.refl _ _).alloc o)
theorem RxMem.lt {w : World} {L : RxLoc} {x : Ix} (h : RxMem w L x) : L.b < w.heap.size := h.blk.lt
theorem RxMem.c0 {w : World} {L : RxLoc} {x : Ix} (h : RxMem w L x) : w.cell? ⟨L.b, 0, none⟩ = some (.slice (some ⟨L.br, 0, none⟩) x.n L.cr) := h.blk.cell (i := 0) (by omega)

theorem RxMem.at_pl {w : World} {L : RxLoc} {x : Ix} (h : RxMem w L x) {u v : Nat} (hu : u < 24) (hv : v < 24) (c : Nat) (hc : c < 3) :
    w.cell? ⟨L.b, 1 + u * 72 + v * 3 + c, none⟩ = some (.int .i64 ((x.ent u v).cell c)) := by
  rw [h.blk.cell (by omega), Ix.RV, if_neg (by omega), show (1 + u * 72 + v * 3 + c - 1) / 72 = u by omega, show (1 + u * 72 + v * 3 + c - 1) % 72 / 3 = v by omega, show (1 + u * 72 + v * 3 + c - 1) % 3 = c by omega]

def Ix.vertex (x : Ix) (v : Int) : Bool := decide (0 ≤ v ∧ v < x.n)

set_option maxHeartbeats 400000 in
theorem rnone_calls (w : World) : Calls Tryd.prog 33 #[] w fun e w' => e = .returned En.none.val ∧ Fr No w w' := by
  go_enter Tryd.func33, Tryd.ntmps33
  go_wp2
  exact bodyPost_ret (v := En.none.val) (by simp [results, Tryd.results33, go_sem, En.val, En.none]) rfl ⟨rfl, (Fr.refl _ _).alloc _⟩

set_option maxHeartbeats 400000 in
theorem rvertex_calls {w : World} {L : RxLoc} {x : Ix} (h : RxMem w L x) (v : Int) :
    Calls Tryd.prog 54 #[.pointer (some ⟨L.b, 0, none⟩), .int .i64 v] w fun e w' => e = .returned (.bool (x.vertex v)) ∧ w = w' := by
  have h0 := h.c0
  by_cases h1 : 0 ≤ v
  · go_enter Tryd.func54, Tryd.ntmps54
    go_wp2
    go_ret
    exact ⟨by simp [Ix.vertex, h1], rfl⟩
  · go_enter Tryd.func54, Tryd.ntmps54
    go_wp2
    go_ret
    have h2 : ¬ 0 ≤ v := by omega
    exact ⟨by simp [Ix.vertex, h2], rfl⟩

set_option maxHeartbeats 400000 in
theorem rtwo_calls {w : World} {L : RxLoc} {x : Ix} (h : RxMem w L x) (u v : Int) :
    Calls Tryd.prog 34 #[.pointer (some ⟨L.b, 0, none⟩), .int .i64 u, .int .i64 v] w fun e w' => e = .returned (.bool (x.two u v)) ∧ w = w' := by
  have e : x.two u v = (x.vertex u && x.vertex v && (u != v)) := by
    rw [Bool.eq_iff_iff]; simp only [Ix.two, Ix.vertex, decide_eq_true_eq, Bool.and_eq_true, bne_iff_ne]; constructor
    · rintro ⟨a, b, c, d, e⟩; exact ⟨⟨⟨b, c⟩, d, e⟩, a⟩
    · rintro ⟨⟨⟨b, c⟩, d, e⟩, a⟩; exact ⟨a, b, c, d, e⟩
  rw [e]
  clear e
  cases hu : x.vertex u
  · have HU := hid hu
    clear hu
    go_enter Tryd.func34, Tryd.ntmps34
    go_wp2_with (go_at_call 54; refine (rvertex_calls h _).mono ?_; rintro e w' ⟨rfl, rfl⟩; (try rw [HU.out]))
    go_ret
    exact ⟨by simp, rfl⟩
  · cases hv : x.vertex v
    · have HU := hid hu
      have HV := hid hv
      clear hu hv
      go_enter Tryd.func34, Tryd.ntmps34
      go_wp2_with (go_at_call 54; refine (rvertex_calls h _).mono ?_; rintro e w' ⟨rfl, rfl⟩; (first | rw [HU.out] | rw [HV.out]))
      go_ret
      exact ⟨by simp, rfl⟩
    · have HU := hid hu
      have HV := hid hv
      clear hu hv
      go_enter Tryd.func34, Tryd.ntmps34
      go_wp2_with (go_at_call 54; refine (rvertex_calls h _).mono ?_; rintro e w' ⟨rfl, rfl⟩; (first | rw [HU.out] | rw [HV.out]))
      go_ret
      exact ⟨by simp, rfl⟩

set_option maxHeartbeats 400000 in
theorem rat_calls {w : World} {L : RxLoc} {x : Ix} (h : RxMem w L x) (u v : Int) :
    Calls Tryd.prog 32 #[.pointer (some ⟨L.b, 0, none⟩), .int .i64 u, .int .i64 v] w fun e w' => e = .returned (x.at_ u v).val ∧ Fr No w w' := by
  cases ht : x.two u v with
  | false =>
    have e : x.at_ u v = En.none := by simp [Ix.at_, ht]
    rw [e]; clear e
    have HT := hid ht
    clear ht
    go_enter Tryd.func32, Tryd.ntmps32
    go_wp2_with (first
      | (go_at_call 34; refine (rtwo_calls (h.alloc _) _ _).mono ?_; rintro e w' ⟨rfl, rfl⟩; rw [HT.out])
      | (go_at_call 33; refine (rnone_calls _).mono ?_; rintro e w1 ⟨rfl, hf⟩; obtain ⟨o1, o2, o3, o4⟩ := own_no hf w.heap.size (heap_new _ _); simp only [En.val, En.none]))
    have q := cell_of (set3 o4 (.int .i64 4611686018427387906) (.int .i64 (-1)) (.int .i64 (-1)))
    refine bodyPost_ret (v := En.none.val) (by simp [results, Tryd.results32, go_sem, q 0, q 1, q 2, En.val, En.none]) rfl ⟨rfl, ?_⟩
    exact ((((Fr.refl _ _).alloc _).trans hf |>.setCell (.inr (Nat.le_refl _)) _).setCell (.inr (Nat.le_refl _)) _ |>.setCell (.inr (Nat.le_refl _)) _)
  | true =>
    obtain ⟨hne, hu0, hu1, hv0, hv1⟩ := two_iff ht
    have hn := h.ok.n2
    have kl := h.lt
    have k0 : w.cell? ⟨L.b, 1 + u.toNat * 72 + v.toNat * 3, none⟩ = _ := h.at_pl (u := u.toNat) (v := v.toNat) (by omega) (by omega) 0 (by omega)
    have k1 := h.at_pl (u := u.toNat) (v := v.toNat) (by omega) (by omega) 1 (by omega)
    have k2 := h.at_pl (u := u.toNat) (v := v.toNat) (by omega) (by omega) 2 (by omega)
    have e : x.at_ u v = x.ent u.toNat v.toNat := by simp [Ix.at_, ht]
    rw [e]; clear e
    have HT := hid ht
    clear ht
    go_enter Tryd.func32, Tryd.ntmps32
    go_wp2_with (go_at_call 34; refine (rtwo_calls (h.alloc _) _ _).mono ?_; rintro e w' ⟨rfl, rfl⟩; rw [HT.out])
    refine bodyPost_ret (v := (x.ent u.toNat v.toNat).val) (by simp [results, Tryd.results32, go_sem, En.val, En.cell]) rfl ⟨rfl, (Fr.refl _ _).alloc _⟩

end Go.Proofs.YtlncmnphjdeeoaaDoor
