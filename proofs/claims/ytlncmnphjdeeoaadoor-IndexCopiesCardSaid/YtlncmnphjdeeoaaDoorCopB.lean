/- The law of copies: a copy is the same, and goes on by itself; walked. -/
import Derived.Test.YtlncmnphjdeeoaaDoorCopA
import Derived.Test.YtlncmnphjdeeoaaDoorAwk
import Derived.Test.YtlncmnphjdeeoaaDoorUnE
set_option linter.unusedVariables false
set_option linter.unusedSimpArgs false
namespace Go.Proofs.YtlncmnphjdeeoaaDoor
open Go.RowKit Go.Deep
attribute [local go_sem high] run_eql_en run_neq_en eq3_self

theorem Ix.copy_same {x : Ix} (hx : x.Ok) {u v : Int} {e : En} (hy : (x.setI u v e).Ok) :
    (∀ i, i < 3456 → (x.setI u v e).K i = x.K i) ↔ (x.codeI u v e = 1 ∨ e = x.at_ u v) := by
  by_cases hc : x.two u v = true ∧ x.May u v e
  · obtain ⟨hne, hu0, hu1, hv0, hv1⟩ := two_iff hc.1
    have ha : x.at_ u v = x.ent u.toNat v.toNat := by unfold Ix.at_; rw [if_pos hc.1]
    have hs : x.setI u v e = x.set u.toNat v.toNat e := by unfold Ix.setI; rw [if_pos hc]
    have hk : x.codeI u v e = 0 := by unfold Ix.codeI; rw [if_pos hc]
    rw [hs] at hy ⊢
    rw [ha, hk]
    have hu : u.toNat < x.n := by omega
    have hv : v.toNat < x.n := by omega
    have huv : u.toNat ≠ v.toNat := by omega
    generalize u.toNat = a at hu huv hy ⊢
    generalize v.toNat = b at hv huv hy ⊢
    constructor
    · intro h
      right
      have hp := hx.pl_lt hu hv
      have key : ∀ c, c < 3 → e.kf c = (x.ent a b).kf c := fun c hcc => by
        have k1 := Ix.Ok.K_pl (x := x.set a b e) hy hu hv huv c hcc
        have k2 := hx.K_pl hu hv huv c hcc
        have e2 : (x.set a b e).ent a b = e := if_pos ⟨rfl, rfl⟩
        have e1 : (x.set a b e).pl a b = x.pl a b := rfl
        rw [e1, e2] at k1
        rw [← k1, ← k2]
        exact h _ (by omega)
      have q0 := key 0 (by omega)
      have q1 := key 1 (by omega)
      have q2 := key 2 (by omega)
      obtain ⟨w0, a0, m0⟩ := e
      generalize x.ent a b = E at q0 q1 q2 ⊢
      obtain ⟨w1, a1, m1⟩ := E
      simp only [En.kf] at q0 q1 q2
      simp at q0 q1 q2
      simp only [En.mk.injEq]
      omega
    · rintro (h | h)
      · omega
      · intro i _
        have : x.set a b e = x := by
          cases x
          simp only [Ix.set, Ix.mk.injEq, true_and]
          funext p q
          split
          · rename_i hh; obtain ⟨rfl, rfl⟩ := hh; exact h
          · rfl
        rw [this]
  · have hs : x.setI u v e = x := by unfold Ix.setI; rw [if_neg hc]
    have hk : x.codeI u v e = 1 := by unfold Ix.codeI; rw [if_neg hc]
    rw [hs, hk]
    exact ⟨fun _ => .inl rfl, fun _ _ _ => rfl⟩

theorem isame_to {w : World} {L M : IxLoc} {x y : Ix} (h1 : IxMem w L x) (h2 : IxMem w M y) (hn : x.n = y.n) (hr : x.rk = y.rk) (b : Bool) (hb : b = true ↔ ∀ i, i < 3456 → x.K i = y.K i) :
    Calls Tryd.prog 40 #[.pointer (some ⟨L.b, 0, none⟩), .pointer (some ⟨M.b, 0, none⟩)] w fun e w' => e = .returned (.bool b) ∧ Fr No w w' :=
  (isame_calls h1 h2 hn hr).mono fun e w' ⟨r, he, hi, hf⟩ => ⟨by rw [he, show r = b by rw [Bool.eq_iff_iff, hi, hb]], hf⟩

theorem one_ints {W : World} {b : Nat} {z : Int} (h : W.cell? ⟨b, 0, none⟩ = some (.int .i64 z)) : IntsF W (some ⟨b, 0, none⟩) 1 (fun _ => z) := fun _ => ⟨b, 0, rfl, fun j hj => by
  obtain rfl : j = 0 := by omega
  exact h⟩

/-- Operations that are not reached on the way at hand. -/
def ldA : Op := Op.load 41 (Operand.tmp 11)
def ldB : Op := Op.load 41 (Operand.tmp 16)
def eqC : Op := Op.binOp BinOp.eql 41 (Operand.tmp 64) (Operand.tmp 65) 41

set_option maxRecDepth 100000 in
set_option maxHeartbeats 20000000 in
theorem copies_law (n num : Nat) (A : Option Addr) (ln cp : Nat) (lk : Nat → Lk) (u v e0 e1 e2 : Int) (w : World) (hn : n ≤ 255) (hnum : (num : Int) ≤ 18446744073709551615) (hl : LinksF w A ln lk) (hln : ln ≤ 140737488351232) (hN : NoneVar w) :
    Calls Tryd.prog 9 #[.int .u8 (n : Nat), .int .u64 (num : Nat), .slice A ln cp, .int .i64 u, .int .i64 v, .agg #[.int .i64 e0, .int .i64 e1, .int .i64 e2]] w fun e w' => e = .returned (.bool true) ∧ Fr No w w' := by
  have HN := hid hN
  have HL := hid hl
  clear hN hl
  go_enter Tryd.func9, Tryd.ntmps9
  go_wp2_with fail
  have fa := (Fr.refl No w).alloc (Obj.cells #[Value.int IntKind.i64 e0, Value.int IntKind.i64 e1, Value.int IntKind.i64 e2] 41)
  have O0 := heap_new w (Obj.cells #[Value.int IntKind.i64 e0, Value.int IntKind.i64 e1, Value.int IntKind.i64 e2] 41)
  refine (awake15_calls _ (HN.out.fr fa (fun h => h))).mono ?_
  rintro e w1 ⟨rfl, hf⟩
  have O1 := hid (own_no hf _ O0).2.2.2
  have HN1 := hid (HN.out.fr (fa.trans hf) (fun h => h))
  have HL1 := hid (LinksF.fr HL.out (fa.trans hf))
  have G1 := hid (fa.trans hf)
  have z0 : w.heap.size < w1.heap.size := (own_no hf _ O0).2.2.1
  clear hf fa O0
  go_wp2_with fail
  refine (made_calls n num A ln cp lk w1 hn hnum HL1.out hln HN1.out).mono ?_
  rintro e w2 ⟨L, R, rfl, hf, hm, hr, hl1, hl2, hl3, hl4, hl5, hl6, hl7, hl8, hl9, _⟩
  obtain ⟨x, hx⟩ : ∃ x, (Ix.start (1 + n % 24) num).sets lk (min ln 300) = x := ⟨_, rfl⟩
  rw [hx] at hm hr
  have HM := hid hm
  have HR := hid hr
  have G2 := hid (G1.out.trans hf)
  have O2 := hid (own_no hf _ O1.out).2.2.2
  have z1 := hf.size
  clear hf hm hr hx
  go_wp2_with fail
  refine (copy_calls HM.out).mono ?_
  rintro e w3 ⟨C, rfl, hf, hc, hc1, hc2, hc3, hc4, hc5⟩
  have HM3 := hid (HM.out.no hf)
  have HR3 := hid (HR.out.no hf)
  have HC3 := hid hc
  have G3 := hid (G2.out.trans hf)
  have O3 := hid (own_no hf _ O2.out).2.2.2
  have zb := HM.out.lt
  have zr := HM.out.hr.1
  have zr2 := HM.out.hb.1
  have yb := HR.out.lt
  have yr := HR.out.hr.1
  have z2 := hf.size
  clear hf HM HR hc
  go_wp2_with fail
  refine (isame_to HC3.out HM3.out rfl rfl true (by simp)).mono ?_
  rintro e w4 ⟨rfl, hf⟩
  have HM4 := hid (HM3.out.no hf)
  have HR4 := hid (HR3.out.no hf)
  have HC4 := hid (HC3.out.no hf)
  have G4 := hid (G3.out.trans hf)
  have O4 := hid (own_no hf _ O3.out).2.2.2
  have z3 := hf.size
  clear hf HM3 HR3 HC3 O3
  go_wp2_with fail
  refine (isame_to HM4.out HC4.out rfl rfl true (by simp)).mono ?_
  rintro e w5 ⟨rfl, hf⟩
  have HM5 := hid (HM4.out.no hf)
  have HR5 := hid (HR4.out.no hf)
  have HC5 := hid (HC4.out.no hf)
  have G5 := hid (G4.out.trans hf)
  have O5 := hid (own_no hf _ O4.out).2.2.2
  have z4 := hf.size
  clear hf HM4 HR4 HC4 O4 O1 O2
  go_wp2_with fail
  refine (rat_calls HR5.out u v).mono ?_
  rintro e w6 ⟨rfl, hf⟩
  have HM6 := hid (HM5.out.no hf)
  have HR6 := hid (HR5.out.no hf)
  have HC6 := hid (HC5.out.no hf)
  have G6 := hid (G5.out.trans hf)
  obtain ⟨o1, o2, o3, o4⟩ := own_no hf _ O5.out
  have z5 := hf.size
  clear hf HM5 HR5 HC5
  obtain ⟨y, hy⟩ : ∃ y, x.at_ u v = y := ⟨_, rfl⟩
  have HY := hid hy
  rw [hy]
  clear hy
  obtain ⟨a0, a1, a2⟩ := y
  simp only [En.val]
  go_wp2_with fail
  have fb := (Fr.refl No w6).alloc (Obj.cells #[Value.int IntKind.i64 a0, Value.int IntKind.i64 a1, Value.int IntKind.i64 a2] 41)
  have P0 := heap_new w6 (Obj.cells #[Value.int IntKind.i64 a0, Value.int IntKind.i64 a1, Value.int IntKind.i64 a2] 41)
  have Q0 := (own_no fb _ o4).2.2.2
  refine (set_calls (HC6.out.no fb) u v ⟨e0, e1, e2⟩).mono ?_
  rintro e w7 ⟨rfl, hm, hf⟩
  have hs6 : w6.heap.size < (w6.alloc (Obj.cells #[Value.int IntKind.i64 a0, Value.int IntKind.i64 a1, Value.int IntKind.i64 a2] 41)).heap.size := by simp
  have zc := HC6.out.lt
  have hx := HM6.out.ok
  have HM7 := hid ((HM6.out.no fb).fr hf (fun (h : L.b = C.b) => by omega) (fun (h : L.br = C.b) => by omega) (fun (h : L.bb = C.b) => by omega) (fun h => HC6.out.nz.1 (Eq.symm h)))
  have HR7 := hid ((HR6.out.no fb).fr hf (fun (h : R.b = C.b) => by omega) (fun (h : R.br = C.b) => by omega))
  have hg1 := G1.out.size
  obtain ⟨o1, o2, o3, o4⟩ := own_after hf _ Q0 (fun (h : w.heap.size = C.b) => by omega)
  obtain ⟨p1, p2, p3, p4⟩ := own_after hf _ P0 (fun (h : w6.heap.size = C.b) => by omega)
  have G7 := hid (fr_sub (G6.out.trans fb) hf (by omega))
  have hcs := Ix.copy_same hx hm.ok
  rw [HY.out] at hcs
  have hsn : (x.setI u v ⟨e0, e1, e2⟩).n = x.n := by unfold Ix.setI; split <;> rfl
  have hsr : (x.setI u v ⟨e0, e1, e2⟩).rk = x.rk := by unfold Ix.setI; split <;> rfl
  obtain ⟨c, hc⟩ : ∃ c, x.codeI u v ⟨e0, e1, e2⟩ = c := ⟨_, rfl⟩
  have hc01 : c = 0 ∨ c = 1 := by rw [← hc]; unfold Ix.codeI; split <;> simp
  rw [hc] at hcs ⊢
  obtain ⟨y, hy⟩ : ∃ y, x.setI u v ⟨e0, e1, e2⟩ = y := ⟨_, rfl⟩
  rw [hy] at hcs hsn hsr hm
  have HC7 := hid hm
  have hn2 := hx.n2
  have hn1 := hx.n1
  have HS := hid hcs
  have r0 := HR7.out.c0
  have e00 : w7.cell? ⟨w.heap.size, 0, none⟩ = some (.int .i64 e0) := o1 0
  have e01 : w7.cell? ⟨w.heap.size, 1, none⟩ = some (.int .i64 e1) := o1 1
  have e02 : w7.cell? ⟨w.heap.size, 2, none⟩ = some (.int .i64 e2) := o1 2
  have a00 : w7.cell? ⟨w6.heap.size, 0, none⟩ = some (.int .i64 a0) := p1 0
  have a01 : w7.cell? ⟨w6.heap.size, 1, none⟩ = some (.int .i64 a1) := p1 1
  have a02 : w7.cell? ⟨w6.heap.size, 2, none⟩ = some (.int .i64 a2) := p1 2
  clear hf hm hy hc hx HM6 HR6 HC6 O5 fb P0 Q0 o1 o2 o3 o4 p1 p2 p3 p4 hcs
  have HSS : Hid (∀ w', Fr No w7 w' → (Fr No w7 w' ∧ w'.cell? ⟨w.heap.size, 0, none⟩ = some (.int .i64 e0) ∧ w'.cell? ⟨w.heap.size, 1, none⟩ = some (.int .i64 e1) ∧ w'.cell? ⟨w.heap.size, 2, none⟩ = some (.int .i64 e2) ∧
      w'.cell? ⟨w6.heap.size, 0, none⟩ = some (.int .i64 a0) ∧ w'.cell? ⟨w6.heap.size, 1, none⟩ = some (.int .i64 a1) ∧ w'.cell? ⟨w6.heap.size, 2, none⟩ = some (.int .i64 a2) ∧ w'.cell? ⟨R.b, 0, none⟩ = some (.slice (some ⟨R.br, 0, none⟩) x.n R.cr))) := hid fun w' hf =>
    ⟨hf, hf.cell_some e00 (fun h => h), hf.cell_some e01 (fun h => h), hf.cell_some e02 (fun h => h), hf.cell_some a00 (fun h => h), hf.cell_some a01 (fun h => h), hf.cell_some a02 (fun h => h), hf.cell_some r0 (fun h => h)⟩
  clear e00 e01 e02 a00 a01 a02 r0
  have hcase : ∃ b : Bool, (b = true ↔ ∀ i, i < 3456 → y.K i = x.K i) ∧ ((c = 1 ∧ b = true) ∨ (c = 0 ∧ b = eq3 e0 e1 e2 a0 a1 a2)) := by
    rcases hc01 with rfl | rfl
    · refine ⟨eq3 e0 e1 e2 a0 a1 a2, ?_, .inr ⟨rfl, rfl⟩⟩
      rw [HS.out, eq3_en ⟨e0, e1, e2⟩ ⟨a0, a1, a2⟩]; simp
    · exact ⟨true, by rw [HS.out]; simp, .inl ⟨rfl, rfl⟩⟩
  obtain ⟨b, hb, hcb⟩ := hcase
  have HB := hid hb
  have HSN := hid hsn
  have HSR := hid hsr
  clear hb hsn hsr HS hc01
  rcases hcb with ⟨rfl, rfl⟩ | ⟨rfl, hbe⟩
  · have HBB := hid (HB.out.1 rfl)
    clear HB
    go_wp2_with fail
    rw [show (Op.load 41 (Operand.tmp 11)) = ldA from rfl, show (Op.load 41 (Operand.tmp 16)) = ldB from rfl, show (Op.binOp BinOp.eql 41 (Operand.tmp 64) (Operand.tmp 65) 41) = eqC from rfl]
    first | ((go_region_held3 (fun w' => Fr No w7 w' ∧ w'.cell? ⟨w.heap.size, 0, none⟩ = some (.int .i64 e0) ∧ w'.cell? ⟨w.heap.size, 1, none⟩ = some (.int .i64 e1) ∧ w'.cell? ⟨w.heap.size, 2, none⟩ = some (.int .i64 e2) ∧
      w'.cell? ⟨w6.heap.size, 0, none⟩ = some (.int .i64 a0) ∧ w'.cell? ⟨w6.heap.size, 1, none⟩ = some (.int .i64 a1) ∧ w'.cell? ⟨w6.heap.size, 2, none⟩ = some (.int .i64 a2) ∧ w'.cell? ⟨R.b, 0, none⟩ = some (.slice (some ⟨R.br, 0, none⟩) x.n R.cr))
      (first | assumption | exact HSS.out _ ((Fr.refl _ _).drew) | exact HSS.out _ (Fr.alloc (show Fr No w7 _ ∧ _ from by assumption).1 _))
      (first
        | (go_at_call 31
           have hw := (show Fr No w7 _ ∧ _ from by assumption).1
           refine (same_calls (HM7.out.no hw) (HR7.out.no hw)).mono ?_
           rintro e w8 ⟨rfl, hf⟩
           have hk := HSS.out _ (hw.trans hf)
           clear hf hw)
        | (go_at_call 40
           have hw := (show Fr No w7 _ ∧ _ from by assumption).1
           refine (isame_to (HC7.out.no hw) (HM7.out.no hw) HSN.out HSR.out true ⟨fun _ => HBB.out, fun _ => rfl⟩).mono ?_
           rintro e w9 ⟨rfl, hf⟩
           have hk := HSS.out _ (hw.trans hf)
           clear hf hw)
        | (go_at_call 41
           have hw := (show Fr No w7 _ ∧ _ from by assumption).1
           refine (vertices_calls (HC7.out.no hw)).mono ?_
           rintro e w10 ⟨rfl, hf⟩
           have hk := HSS.out _ (hw.trans hf)
           try (have hxc := hf.cell_some (cell_of (heap_new _ (Obj.cells #[.int .i64 (x.n : Nat)] 3)) 0) (fun h => h))
           clear hf hw)
        | (go_at_call 18
           have hw := (show Fr No w7 _ ∧ _ from by assumption).1
           refine (ints_calls (some ⟨_, 0, none⟩) (some ⟨_, 0, none⟩) 1 1 1 1 (fun _ => ((y.n : Nat) : Int)) (fun _ => ((x.n : Nat) : Int)) _ (one_ints ?i1) (one_ints ?i2) (by decide) (by decide) true ⟨fun _ => ⟨rfl, fun _ _ => congrArg Int.ofNat HSN.out⟩, fun _ => rfl⟩).mono ?_
           (case i1 => first | exact cell_of (heap_alloc2 _ _ _) 0 | exact cell_of (heap_alloc2' _ _ _) 0 | exact cell_of (heap_new _ _) 0)
           (case i2 => first | exact cell_of (heap_alloc2' _ _ _) 0 | exact cell_of (heap_alloc2 _ _ _) 0 | exact ((Fr.refl No _).alloc _).cell_some hxc (fun h => h))
           rintro e w11 ⟨rfl, hf⟩
           have hk := HSS.out _ (hw.trans hf)
           clear hf hw)))) | fail
    all_goals go_wp2
    all_goals go_ret
    all_goals exact ⟨rfl, G7.out.trans (show Fr No w7 _ ∧ _ from by assumption).1⟩
  · cases hE : eq3 e0 e1 e2 a0 a1 a2 with
    | true =>
      rw [hE] at hbe
      subst hbe
      have HBB := hid (HB.out.1 rfl)
      clear HB
      go_wp2_with fail
      first | ((go_region_held3 (fun w' => Fr No w7 w' ∧ w'.cell? ⟨w.heap.size, 0, none⟩ = some (.int .i64 e0) ∧ w'.cell? ⟨w.heap.size, 1, none⟩ = some (.int .i64 e1) ∧ w'.cell? ⟨w.heap.size, 2, none⟩ = some (.int .i64 e2) ∧
        w'.cell? ⟨w6.heap.size, 0, none⟩ = some (.int .i64 a0) ∧ w'.cell? ⟨w6.heap.size, 1, none⟩ = some (.int .i64 a1) ∧ w'.cell? ⟨w6.heap.size, 2, none⟩ = some (.int .i64 a2) ∧ w'.cell? ⟨R.b, 0, none⟩ = some (.slice (some ⟨R.br, 0, none⟩) x.n R.cr))
        (first | assumption | exact HSS.out _ ((Fr.refl _ _).drew) | exact HSS.out _ (Fr.alloc (show Fr No w7 _ ∧ _ from by assumption).1 _))
        (first
          | (go_at_call 31
             have hw := (show Fr No w7 _ ∧ _ from by assumption).1
             refine (same_calls (HM7.out.no hw) (HR7.out.no hw)).mono ?_
             rintro e w8 ⟨rfl, hf⟩
             have hk := HSS.out _ (hw.trans hf)
             clear hf hw)
          | (go_at_call 40
             have hw := (show Fr No w7 _ ∧ _ from by assumption).1
             refine (isame_to (HC7.out.no hw) (HM7.out.no hw) HSN.out HSR.out true ⟨fun _ => HBB.out, fun _ => rfl⟩).mono ?_
             rintro e w9 ⟨rfl, hf⟩
             have hk := HSS.out _ (hw.trans hf)
             clear hf hw)
          | (go_at_call 41
             have hw := (show Fr No w7 _ ∧ _ from by assumption).1
             refine (vertices_calls (HC7.out.no hw)).mono ?_
             rintro e w10 ⟨rfl, hf⟩
             have hk := HSS.out _ (hw.trans hf)
             try (have hxc := hf.cell_some (cell_of (heap_new _ (Obj.cells #[.int .i64 (x.n : Nat)] 3)) 0) (fun h => h))
             clear hf hw)
          | (go_at_call 18
             have hw := (show Fr No w7 _ ∧ _ from by assumption).1
             refine (ints_calls (some ⟨_, 0, none⟩) (some ⟨_, 0, none⟩) 1 1 1 1 (fun _ => ((y.n : Nat) : Int)) (fun _ => ((x.n : Nat) : Int)) _ (one_ints ?i1) (one_ints ?i2) (by decide) (by decide) true ⟨fun _ => ⟨rfl, fun _ _ => congrArg Int.ofNat HSN.out⟩, fun _ => rfl⟩).mono ?_
             (case i1 => first | exact cell_of (heap_alloc2 _ _ _) 0 | exact cell_of (heap_alloc2' _ _ _) 0 | exact cell_of (heap_new _ _) 0)
             (case i2 => first | exact cell_of (heap_alloc2' _ _ _) 0 | exact cell_of (heap_alloc2 _ _ _) 0 | exact ((Fr.refl No _).alloc _).cell_some hxc (fun h => h))
             rintro e w11 ⟨rfl, hf⟩
             have hk := HSS.out _ (hw.trans hf)
             clear hf hw)))) | fail
      all_goals go_wp2
      all_goals go_ret
      all_goals exact ⟨rfl, G7.out.trans (show Fr No w7 _ ∧ _ from by assumption).1⟩
    | false =>
      rw [hE] at hbe
      subst hbe
      have HBF := hid (fun h => Bool.noConfusion (HB.out.2 h) : ¬ ∀ i, i < 3456 → y.K i = x.K i)
      clear HB
      go_wp2_with fail
      first | ((go_region_held3 (fun w' => Fr No w7 w' ∧ w'.cell? ⟨w.heap.size, 0, none⟩ = some (.int .i64 e0) ∧ w'.cell? ⟨w.heap.size, 1, none⟩ = some (.int .i64 e1) ∧ w'.cell? ⟨w.heap.size, 2, none⟩ = some (.int .i64 e2) ∧
        w'.cell? ⟨w6.heap.size, 0, none⟩ = some (.int .i64 a0) ∧ w'.cell? ⟨w6.heap.size, 1, none⟩ = some (.int .i64 a1) ∧ w'.cell? ⟨w6.heap.size, 2, none⟩ = some (.int .i64 a2) ∧ w'.cell? ⟨R.b, 0, none⟩ = some (.slice (some ⟨R.br, 0, none⟩) x.n R.cr))
        (first | assumption | exact HSS.out _ ((Fr.refl _ _).drew) | exact HSS.out _ (Fr.alloc (show Fr No w7 _ ∧ _ from by assumption).1 _))
        (first
          | (go_at_call 31
             have hw := (show Fr No w7 _ ∧ _ from by assumption).1
             refine (same_calls (HM7.out.no hw) (HR7.out.no hw)).mono ?_
             rintro e w8 ⟨rfl, hf⟩
             have hk := HSS.out _ (hw.trans hf)
             clear hf hw)
          | (go_at_call 40
             have hw := (show Fr No w7 _ ∧ _ from by assumption).1
             refine (isame_to (HC7.out.no hw) (HM7.out.no hw) HSN.out HSR.out false ⟨fun h => Bool.noConfusion h, fun h => (HBF.out h).elim⟩).mono ?_
             rintro e w9 ⟨rfl, hf⟩
             have hk := HSS.out _ (hw.trans hf)
             clear hf hw)
          | (go_at_call 41
             have hw := (show Fr No w7 _ ∧ _ from by assumption).1
             refine (vertices_calls (HC7.out.no hw)).mono ?_
             rintro e w10 ⟨rfl, hf⟩
             have hk := HSS.out _ (hw.trans hf)
             try (have hxc := hf.cell_some (cell_of (heap_new _ (Obj.cells #[.int .i64 (x.n : Nat)] 3)) 0) (fun h => h))
             clear hf hw)
          | (go_at_call 18
             have hw := (show Fr No w7 _ ∧ _ from by assumption).1
             refine (ints_calls (some ⟨_, 0, none⟩) (some ⟨_, 0, none⟩) 1 1 1 1 (fun _ => ((y.n : Nat) : Int)) (fun _ => ((x.n : Nat) : Int)) _ (one_ints ?i1) (one_ints ?i2) (by decide) (by decide) true ⟨fun _ => ⟨rfl, fun _ _ => congrArg Int.ofNat HSN.out⟩, fun _ => rfl⟩).mono ?_
             (case i1 => first | exact cell_of (heap_alloc2 _ _ _) 0 | exact cell_of (heap_alloc2' _ _ _) 0 | exact cell_of (heap_new _ _) 0)
             (case i2 => first | exact cell_of (heap_alloc2' _ _ _) 0 | exact cell_of (heap_alloc2 _ _ _) 0 | exact ((Fr.refl No _).alloc _).cell_some hxc (fun h => h))
             rintro e w11 ⟨rfl, hf⟩
             have hk := HSS.out _ (hw.trans hf)
             clear hf hw)))) | fail
      all_goals go_wp2
      all_goals go_ret
      all_goals exact ⟨rfl, G7.out.trans (show Fr No w7 _ ∧ _ from by assumption).1⟩

end Go.Proofs.YtlncmnphjdeeoaaDoor
