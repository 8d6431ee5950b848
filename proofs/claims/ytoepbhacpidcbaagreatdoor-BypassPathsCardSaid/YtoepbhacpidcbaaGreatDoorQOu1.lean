/- bypass: the steps of ways out from an upper vertex: the two iterators are laid. -/

import Derived.Test.YtoepbhacpidcbaaGreatDoorQBase
import Derived.Test.YtoepbhacpidcbaaGreatDoorQIdx
import Derived.Test.YtoepbhacpidcbaaGreatDoorQIdxB
import Derived.Test.YtoepbhacpidcbaaGreatDoorQPerm
import Derived.Test.YtoepbhacpidcbaaGreatDoorQRef
import Derived.Test.YtoepbhacpidcbaaGreatDoorQBig
import Derived.Test.YtoepbhacpidcbaaGreatDoorQUnref
import Derived.Test.YtoepbhacpidcbaaGreatDoorQUnE
import Derived.Test.YtoepbhacpidcbaaGreatDoorQItr
import Derived.Test.YtoepbhacpidcbaaGreatDoorQDst
import Derived.Test.YtoepbhacpidcbaaGreatDoorQLnk
import Derived.Test.YtoepbhacpidcbaaGreatDoorQRow2
import Derived.Test.YtoepbhacpidcbaaGreatDoorQGr
import Derived.Test.YtoepbhacpidcbaaGreatDoorQGOps
import Derived.Test.YtoepbhacpidcbaaGreatDoorQBld
import Derived.Test.YtoepbhacpidcbaaGreatDoorQBW
import Derived.Test.YtoepbhacpidcbaaGreatDoorQHpK
import Derived.Test.YtoepbhacpidcbaaGreatDoorQG8
import Derived.Test.YtoepbhacpidcbaaGreatDoorQSqO
import Derived.Test.YtoepbhacpidcbaaGreatDoorQGoes
import Derived.Test.YtoepbhacpidcbaaGreatDoorQUp
import Derived.Test.YtoepbhacpidcbaaGreatDoorQSetP
import Derived.Test.YtoepbhacpidcbaaGreatDoorQWay
import Derived.Test.YtoepbhacpidcbaaGreatDoorQIn1
import Derived.Test.YtoepbhacpidcbaaGreatDoorQAll
import Derived.Test.YtoepbhacpidcbaaGreatDoorQAw6
import Derived.Test.YtoepbhacpidcbaaGreatDoorQMe
import Derived.Test.YtoepbhacpidcbaaGreatDoorQDv1
import Derived.Test.YtoepbhacpidcbaaGreatDoorQSt

set_option linter.unusedVariables false
set_option linter.unusedSimpArgs false
namespace Go.Proofs.YtoepbhacpidcbaaGreatDoor
open Go.RowKit Go.Shelf Go.Deep

attribute [local go_sem] Oper.semAt_some

/-- What keeps a relation, keeps it while the marks are taken. -/
theorem Marks.keeps {n0 B : Nat} {ds : List Nat} {W W' : World} (h : Marks n0 ds W) (hk : KeepsFrom B W W') (hB : B ≤ n0) : Marks n0 ds W' :=
  ⟨h.1, fun d hd => ⟨(h.2 d hd).1, hk.same d _ (Nat.le_trans hB (h.2 d hd).1) (h.2 d hd).2 rfl⟩⟩
theorem leaves_marksO {F : Fence} {n : Nat} {P : Program} {fn : Func} {tmps : Array Value} {R : Ending → World → Prop} {n0 B : Nat} {β : Type} {I : β → World → Prop} {s : β} (hI : OwnFrom B I) (hB : B ≤ n0) : ∀ (ds : List Nat) (W : World), Marks n0 ds W → I s W →
    (∀ W', I s W' → LeavesIn F n P fn tmps R [] .returning W') → LeavesInM F n P fn tmps R (ds.map mark) .returning W
  | [], W, _, h0, h => h W h0
  | d :: ds, W, hm, h0, h => by
    have hd := hm.2 d (by simp)
    have hnd := (List.nodup_cons.1 hm.1)
    have hf : Fr (One d) W (W.putObj d (.deferred none)) := fr_putObj (F := One d) W d _ rfl
    refine ⟨by simp, .inl ⟨d, W.putObj d (.deferred none), rfl, run_takeDeferred hd.2, leaves_marksO (n0 := n0) hI hB ds _ ⟨hnd.2, fun x hx => ?_⟩ (OwnFrom.putObj hI _ h0 (by omega) hd.2 rfl) h⟩⟩
    have hx' := hm.2 x (by simp [hx])
    exact ⟨hx'.1, (hf.block x (hm.lt (by simp [hx])) (fun (e : x = d) => hnd.1 (e ▸ hx))).trans hx'.2⟩

set_option maxRecDepth 100000 in
set_option maxHeartbeats 4000000 in
theorem out1_up {x : Ix} {L : IxLoc} {G : Gr} {Lg : GLoc} (hok : x.Ok) (hd : G.Hd x.n) (Br Bv rb v fl n0 : Nat) (hv : v < x.n) (hgr : ¬ x.rk v < fl) (hfl : fl ≤ x.n) (F : Nat → Prop) (f1 : ¬ F L.b) (f2 : ¬ F L.br) (f3 : ¬ F L.bb) (f4 : ¬ F 0) (f5 : ¬ F Br) (f6 : ¬ F Bv) (f7 : ¬ F rb) (fn : ∀ k, F k → n0 ≤ k) (w : World) (h : IxMem w L x) (hg : ∀ W, Below n0 w W → GMem W Lg G) (hn0 : n0 ≤ w.heap.size) (ho : OutAt n0 w Lg.b (v : Nat) (selI (G.outs (v : Nat)))) (hrd : RdM w rb (some ⟨Lg.b, 0, none⟩) L fl)
    (hbr : w.cell? ⟨Br, 0, none⟩ = some (.pointer (some ⟨rb, 0, none⟩))) (hbv : w.cell? ⟨Bv, 0, none⟩ = some (.int .i64 (v : Nat))) (N0 : Nat) (hF : ∀ k, N0 ≤ k → k < N0 + 11 → ¬ F k) :
    SeqO Fence.wide 8 Tryz.prog 134 #[.pointer (some ⟨Br, 0, none⟩), .pointer (some ⟨Bv, 0, none⟩)] stEnc (Fr F) (fun ys => ys = oS G hok hd fl v) (fun pre => pre <+: oS G hok hd fl v) ((selI (G.outs (v : Nat))).length + (x.dvTo v fl).length) N0 11 w := fun l J Jx W hW hN hJ hJx hY h0 => by
  subst hN
  have hf0 := Fr.of_below hW
  have hra : x.rank (v : Nat) = x.rk v := by unfold Ix.rank; rw [if_pos ⟨by omega, by omega⟩]; simp
  have HRA := hid hra
  have HX := hid (h.no hf0)
  have HRD := hid (hrd.no hf0)
  have cr := hf0.cell_some hbr (fun h => h)
  have cv := hf0.cell_some hbv (fun h => h)
  have lr := cell_lt cr
  have lv := cell_lt cv
  have lrb := cell_lt HRD.out.x
  simp only at lr lv lrb
  have HJ := hid hJ
  have HJX := hid hJx
  have HY := hid hY
  have H0 := hid h0
  have HFF := hid hF
  have HG := hid (fun W' (hb : Below n0 W W') => hg W' ((hW.mono hn0).trans hb))
  have ho' := ho.below (hW.mono hn0)
  have HO := hid ho'
  have hsw := hf0.size
  have HFN := hid fn
  have hn := h.ok.n2
  clear hW hJ hJx hY h0 h hrd hbr hbv hra hf0 hF hg ho ho' fn
  refine callsIn_of_wp_marks Tryz.func134 rfl trivial ?_ rfl
  refine wpIn_wide.2 ?_
  simp only [Tryz.ntmps134, List.size_toArray, List.length_cons, List.length_nil, Nat.reduceAdd, Nat.reduceSub, Array.replicate_succ, Array.replicate_zero, List.push_toArray, List.append_toArray, List.nil_append, List.cons_append]
  go_wp2_with fail
  have fa : Fr No W (W.alloc (.cells #[.func (.yield l) #[] #[]] 219)) := (Fr.refl No W).alloc _
  refine (ground_calls (HX.out.no fa) (HRD.out.no fa) (v : Nat)).mono ?_
  rw [HRA.out]
  rintro e w1 ⟨rfl, rfl⟩
  have fb : Fr No W (W.alloc (.cells #[.func (.yield l) #[] #[]] 219)).drew := fa.drew
  have hsb : (W.alloc (.cells #[.func (.yield l) #[] #[]] 219)).drew.heap.size = W.heap.size + 1 := by simp
  have c3 : (W.alloc (.cells #[.func (.yield l) #[] #[]] 219)).drew.cell? ⟨W.heap.size, 0, none⟩ = some (.func (.yield l) #[] #[]) := by simp [go_sem]
  generalize (W.alloc (.cells #[.func (.yield l) #[] #[]] 219)).drew = Wb at fb hsb c3 ⊢
  have cr := fb.cell_some cr (fun h => h)
  have cv := fb.cell_some cv (fun h => h)
  have FB := hid fb
  have HSB := hid hsb
  have lr : Br < Wb.heap.size := cell_lt cr
  have lv : Bv < Wb.heap.size := cell_lt cv
  have l3 : W.heap.size < Wb.heap.size := cell_lt c3
  clear fa fb hsb
  have g1 : decide ((x.rk v : Int) < (fl : Int)) = false := by simp; omega
  go_wp2_with fail
  refine Code.wp_mono (Q := fun e a' w' => e = .normal ∧ ∃ U D Sb : Nat, a' = { tmps := #[.func (.yield l) #[] #[], .pointer (some ⟨Br, 0, none⟩), .pointer (some ⟨Bv, 0, none⟩), .pointer (some ⟨W.heap.size, 0, none⟩), undef, undef, undef, undef, undef, undef, .pointer (some ⟨rb, 0, none⟩), .int .i64 (v : Nat), .bool false, undef, undef, undef, undef, undef, undef, undef, undef, undef, undef, undef, undef, undef, undef, undef, undef, undef, .pointer (some ⟨rb, 0, none⟩), .int .i64 (v : Nat), (Value.func (.func 193) #[] #[.pointer (some ⟨U, 0, none⟩), .pointer (some ⟨U + 1, 0, none⟩)]), .pointer (some ⟨rb, 0, none⟩), .int .i64 (v : Nat), (Value.func (.func 195) #[] #[.pointer (some ⟨D, 0, none⟩), .pointer (some ⟨D + 1, 0, none⟩)]), .slice (some ⟨Sb, 0, none⟩) 2 2, .int .i64 2, .int .i64 0, undef, undef, undef, undef, undef, undef, undef, undef, undef, undef, undef, undef], defers := [] } ∧ Fr No Wb w' ∧ w'.heap.size = Wb.heap.size + 5 ∧ Wb.heap.size ≤ U ∧ U + 1 < Sb ∧ Wb.heap.size ≤ D ∧ D + 1 < Sb ∧ Sb = Wb.heap.size + 4 ∧ (U + 1 < D ∨ D + 1 < U) ∧
      w'.cell? ⟨U, 0, none⟩ = some (.pointer (some ⟨rb, 0, none⟩)) ∧ w'.cell? ⟨U + 1, 0, none⟩ = some (.int .i64 (v : Nat)) ∧ w'.cell? ⟨D, 0, none⟩ = some (.pointer (some ⟨rb, 0, none⟩)) ∧ w'.cell? ⟨D + 1, 0, none⟩ = some (.int .i64 (v : Nat)) ∧
      w'.cell? ⟨Sb, 0, none⟩ = some (Value.func (.func 193) #[] #[.pointer (some ⟨U, 0, none⟩), .pointer (some ⟨U + 1, 0, none⟩)]) ∧ w'.cell? ⟨Sb, 1, none⟩ = some (Value.func (.func 195) #[] #[.pointer (some ⟨D, 0, none⟩), .pointer (some ⟨D + 1, 0, none⟩)])) ?cont ?region
  case cont =>
    rintro e a' w' ⟨rfl, U, D, Sb, rfl, hf, hsz, h1, h2, h3, h4, h5, h6, cu0, cu1, cd0, cd1, cs0, cs1⟩
    simp only [Exit.then]
    go_wp2_with fail
    have cr := hf.cell_some cr (fun h => h)
    have c3 := hf.cell_some c3 (fun h => h)
    have hws : w'.heap.size = W.heap.size + 6 := by have := HSB.out; omega
    have hj0 : J [] w' := HJ.out _ _ _ none H0.out (fr_grownBy (FB.out.trans hf)) (fun r e => by cases e)
    have HFW := hid (FB.out.trans hf)
    have HJ0 := hid hj0
    have HWS := hid hws
    have hNU : ∀ k, W.heap.size ≤ k → k < w'.heap.size → ¬ F k := fun k h1 h2 => HFF.out k h1 (by omega)
    have HNU := hid hNU
    have h5a : Wb.heap.size ≤ Sb := by omega
    have h5b : Sb < w'.heap.size := by omega
    have h5c : Wb.heap.size ≤ w'.heap.size := by omega
    have h5d : W.heap.size ≤ Wb.heap.size := by have := HSB.out; omega
    clear hf hj0 H0 g1 FB hNU hws h5 hsz h6
    obtain ⟨dn, hdn⟩ : ∃ dn : Nat → List (StEl x.n false), dn = fun i => if i = 0 then [] else if i = 1 then (G.upL x fl (selI (G.outs (v : Nat)))).map (stU hd fl) else oS G hok hd fl v := ⟨_, rfl⟩
    have hdn0 : dn 0 = [] := by rw [hdn]; rfl
    have hdn1 : dn 1 = (G.upL x fl (selI (G.outs (v : Nat)))).map (stU hd fl) := by rw [hdn]; rfl
    have hdn2 : dn 2 = (G.upL x fl (selI (G.outs (v : Nat)))).map (stU hd fl) ++ (x.dvTo v fl).map (stD hok v) := by
      rw [hdn]; show oS G hok hd fl v = _; unfold oS; rw [if_neg hgr]
    have hdn3 : dn 2 = oS G hok hd fl v := by rw [hdn]; rfl
    have HD := hid (And.intro hdn0 (And.intro hdn1 (And.intro hdn2 hdn3)))
    clear hdn0 hdn1 hdn2 hdn3 hdn
    refine wp_loop_ghost_k (fun k a' W1 => ∃ (i : Nat) (ds : List Nat) (u7 u39 u40 u41 u42 u50 : Value), (i ≤ 2 ∧ k = 2 - i ∧ J (dn i) W1 ∧ (i = 0 ∧ W1.heap.size = W.heap.size + 6 ∨ 1 ≤ i ∧ W.heap.size + 11 ≤ W1.heap.size) ∧ Fr (fun k => F k ∨ w'.heap.size ≤ k) w' W1 ∧ Marks w'.heap.size ds W1) ∧
      a' = { tmps := #[.func (.yield l) #[] #[], .pointer (some ⟨Br, 0, none⟩), .pointer (some ⟨Bv, 0, none⟩), .pointer (some ⟨W.heap.size, 0, none⟩), undef, undef, undef, u7, undef, undef, .pointer (some ⟨rb, 0, none⟩), .int .i64 (v : Nat), .bool false, undef, undef, undef, undef, undef, undef, undef, undef, undef, undef, undef, undef, undef, undef, undef, undef, undef, .pointer (some ⟨rb, 0, none⟩), .int .i64 (v : Nat), (Value.func (.func 193) #[] #[.pointer (some ⟨U, 0, none⟩), .pointer (some ⟨U + 1, 0, none⟩)]), .pointer (some ⟨rb, 0, none⟩), .int .i64 (v : Nat), (Value.func (.func 195) #[] #[.pointer (some ⟨D, 0, none⟩), .pointer (some ⟨D + 1, 0, none⟩)]), .slice (some ⟨Sb, 0, none⟩) 2 2, .int .i64 2, .int .i64 (i : Nat), u39, u40, u41, u42, undef, undef, undef, undef, undef, undef, undef, u50], defers := ds.map mark }) 2 ?_ ?_
    · exact ⟨0, [], _, _, _, _, _, _, ⟨by omega, rfl, by rw [HD.out.1]; exact HJ0.out, .inl ⟨rfl, HWS.out⟩, Fr.refl _ _, Marks.nil _ _⟩, rfl⟩
    intro gk a' wr hI KJ K hJk hK
    obtain ⟨i, ds, u7, u39, u40, u41, u42, u50, ⟨hi, hgk, hj, hsz1, hf1, hmk⟩, rfl⟩ := hI
    have HJI := hid hj
    have HSZ := hid hsz1
    have HF1 := hid hf1
    have HMK := hid hmk
    have HGK := hid hgk
    have HKJ := hid hJk
    have HK := hid hK
    clear hj hsz1 hf1 hmk hgk hJk hK HJ0
    have hlow : ∀ k, k < w'.heap.size → ¬ F k → ¬ (F k ∨ w'.heap.size ≤ k) := fun k h1 h2 h => h.elim h2 (fun h => by omega)
    have HLOW := hid hlow
    clear hlow
    by_cases hlt : i < 2
    · have hlt2 : (i : Int) < 2 := by omega
      have hwW := HFW.out.size
      have hwr := HF1.out.size
      have key : ∃ (gf Ba Nn c : Nat) (add : List (StEl x.n false)), wr.cell? ⟨Sb, i, none⟩ = some (Value.func (.func gf) #[] #[.pointer (some ⟨Ba, 0, none⟩), .pointer (some ⟨Ba + 1, 0, none⟩)]) ∧ (∀ args w, (callFunc gf args).run Tryz.prog w = .ok (.enter gf args) w) ∧
          SeqO Fence.wide 7 Tryz.prog gf #[.pointer (some ⟨Ba, 0, none⟩), .pointer (some ⟨Ba + 1, 0, none⟩)] stEnc (Fr (fun k => F k ∨ k = wr.heap.size + 1)) (fun ys => ys = add) (fun pre => pre <+: add) Nn (wr.heap.size + 2) c wr ∧ dn i ++ add = dn (i + 1) ∧ W.heap.size + 11 ≤ wr.heap.size + 2 + c ∧ (dn i).length + Nn ≤ (selI (G.outs (v : Nat))).length + (x.dvTo v fl).length := by
        have q1 := HX.out.lt
        have q2 := HX.out.hr.1
        have q3 := HX.out.hb.1
        have q4 := HX.out.gn.lt
        have hws := HWS.out
        have gk : ∀ k, k < W.heap.size → ¬ F k → ¬ (F k ∨ k = wr.heap.size + 1) := fun k h1 h2 h => h.elim h2 (fun h => by omega)
        have gn : ∀ k, W.heap.size ≤ k → k < w'.heap.size → ¬ (F k ∨ k = wr.heap.size + 1) := fun k h1 h2 h => h.elim (HNU.out k h1 h2) (fun h => by omega)
        have hfr : Fr (fun k => F k ∨ W.heap.size ≤ k) W wr := (HFW.out.no).trans (HF1.out.mono (fun k _ h => h.imp (fun h => h) (fun h => by omega)))
        have nl : ∀ k, k < W.heap.size → ¬ F k → ¬ (F k ∨ W.heap.size ≤ k) := fun k h1 h2 h => h.elim h2 (fun h => by omega)
        have hxr := HX.out.fr hfr (nl _ q1 f1) (nl _ q2 f2) (nl _ q3 f3) (nl _ q4 f4)
        have hrr := HRD.out.fr hfr (nl _ (by omega) f7)
        (have : i = 0 ∨ i = 1 := by omega)
        rcases this with rfl | rfl
        · refine ⟨193, U, (selI (G.outs (v : Nat))).length, 3, (G.upL x fl (selI (G.outs (v : Nat)))).map (stU hd fl), HF1.out.cell_some cs0 (HLOW.out Sb (by omega) (HNU.out Sb (by omega) (by omega))), enters_of Tryz.func193 (by kernel_rfl) rfl, ?_, by rw [HD.out.1, HD.out.2.1]; rfl, by omega, by rw [HD.out.1]; simp⟩
          have hbl : Below n0 W wr := below_fr hfr (fun k hk => hk.elim (HFN.out k) (fun h => by omega)) (by omega)
          exact SeqO.map (stU hd fl) (stU_enc hd fl) (Nat.le_refl _) (upper1_seq U (U + 1) rb v fl n0 (fun k => F k ∨ k = wr.heap.size + 1) (gk _ q1 f1) (gk _ q2 f2) (gk _ q3 f3) (gk _ q4 f4) (gn _ (by omega) (by omega)) (gn _ (by omega) (by omega)) (gk _ (by omega) f7) (fun k hk => hk.elim (HFN.out k) (fun h => by omega)) wr hxr (fun W' hb => HG.out W' (hbl.trans hb)) (by omega) (HO.out.below hbl) hrr
            (HF1.out.cell_some cu0 (HLOW.out U (by omega) (HNU.out U (by omega) (by omega)))) (HF1.out.cell_some cu1 (HLOW.out (U + 1) (by omega) (HNU.out (U + 1) (by omega) (by omega)))) (wr.heap.size + 2) (fun k h1 h2 h => h.elim (HFF.out k (by omega) (by have := HSZ.out; omega)) (fun h => by omega)))
        · refine ⟨195, D, (x.dvTo v fl).length, 0, (x.dvTo v fl).map (stD hok v), HF1.out.cell_some cs1 (HLOW.out Sb (by omega) (HNU.out Sb (by omega) (by omega))), enters_of Tryz.func195 (by kernel_rfl) rfl, ?_, by rw [HD.out.2.1, HD.out.2.2.1], by have := HSZ.out; omega, by rw [HD.out.2.1, List.length_map]; have := G.upL_len x fl (selI (G.outs (v : Nat))); omega⟩
          exact SeqO.map (stD hok v) (stD_enc hok v) (Nat.le_refl _) (SeqO.of_K (dive1_seq 7 (by omega) D (D + 1) rb v fl (some ⟨Lg.b, 0, none⟩) hv hfl (fun k => F k ∨ k = wr.heap.size + 1) (gk _ q1 f1) (gk _ q2 f2) (gk _ q3 f3) (gk _ q4 f4) (gn _ (by omega) (by omega)) (gn _ (by omega) (by omega)) (gk _ (by omega) f7) wr hxr hrr
            (HF1.out.cell_some cd0 (HLOW.out D (by omega) (HNU.out D (by omega) (by omega)))) (HF1.out.cell_some cd1 (HLOW.out (D + 1) (by omega) (HNU.out (D + 1) (by omega) (by omega))))))
      obtain ⟨gf, Ba, Nn, c, add, cs, heg, hseq, hda, hcs, hNn⟩ := key
      have HSEQ := hid hseq
      have HEG := hid heg
      have HDA := hid hda
      have HNN := hid hNn
      clear hseq heg hda hNn cs0 cs1 cu0 cu1 cd0 cd1
      have hpd : dn (i + 1) <+: dn 2 := by
        (have : i = 0 ∨ i = 1 := by omega)
        rcases this with rfl | rfl
        · rw [HD.out.2.1, HD.out.2.2.1]; exact List.prefix_append _ _
        · exact List.prefix_refl _
      have HPD := hid hpd
      have hml : ∀ y ∈ ds, y < wr.heap.size := fun y hy => HMK.out.lt hy
      have HML := hid hml
      clear hpd hml
      go_wp2_with fail
      refine (wpIn_wide (n := 8)).1 ?_
      refine wpIn_rangeFunc_O rfl (by omega) (gf := gf) (lb := #[.pointer (some ⟨Ba, 0, none⟩), .pointer (some ⟨Ba + 1, 0, none⟩)]) rfl trivial HEG.out HSEQ.out (fun h k => Fr.trans h k) (fun W o o' _ _ _ => fr_putObj W _ o' (.inr rfl)) (Below.refl _ _) (fun _ => rfl)
        (fun pre W' => J (dn i ++ pre) W' ∧ Fr (fun k => F k ∨ w'.heap.size ≤ k) w' W' ∧ Marks w'.heap.size ds W')
        (fun c pre W' => c = .ret ∧ Jx (dn i ++ pre) W' ∧ Marks w'.heap.size ds W')
        (fun s A B row hs hg hr => ⟨OwnFrom.later HJ.out (show W.heap.size ≤ wr.heap.size by omega) (dn i ++ s) A B row hs.1 hg hr, ownFrom_fr _ w' s A B row hs.2.1 hg (fun r e => ⟨Nat.le_trans hwr (hr r e).1, (hr r e).2⟩), hs.2.2.grown HML.out hg (fun r e => (hr r e).1)⟩)
        (fun c s A B row hs hg hr => ⟨hs.1, OwnFrom.later HJX.out (show W.heap.size ≤ wr.heap.size by omega) (dn i ++ s) A B row hs.2.1 hg hr, hs.2.2.grown HML.out hg (fun r e => (hr r e).1)⟩)
        ⟨by rw [List.append_nil]; exact HJI.out, HF1.out, HMK.out⟩
        (fun el => { tmps := #[.func (.yield l) #[] #[], .pointer (some ⟨Br, 0, none⟩), .pointer (some ⟨Bv, 0, none⟩), .pointer (some ⟨W.heap.size, 0, none⟩), undef, undef, undef, (Value.func (.func gf) #[] #[.pointer (some ⟨Ba, 0, none⟩), .pointer (some ⟨Ba + 1, 0, none⟩)]), el.1.val, .int .i64 el.1.w, .pointer (some ⟨rb, 0, none⟩), .int .i64 (v : Nat), .bool false, undef, undef, undef, undef, undef, undef, undef, undef, undef, undef, undef, undef, undef, undef, undef, undef, undef, .pointer (some ⟨rb, 0, none⟩), .int .i64 (v : Nat), (Value.func (.func 193) #[] #[.pointer (some ⟨U, 0, none⟩), .pointer (some ⟨U + 1, 0, none⟩)]), .pointer (some ⟨rb, 0, none⟩), .int .i64 (v : Nat), (Value.func (.func 195) #[] #[.pointer (some ⟨D, 0, none⟩), .pointer (some ⟨D + 1, 0, none⟩)]), .slice (some ⟨Sb, 0, none⟩) 2 2, .int .i64 2, .int .i64 (i : Nat), .bool true, .pointer (some ⟨Sb, i, none⟩), (Value.func (.func gf) #[] #[.pointer (some ⟨Ba, 0, none⟩), .pointer (some ⟨Ba + 1, 0, none⟩)]), (Value.func (.func gf) #[] #[.pointer (some ⟨Ba, 0, none⟩), .pointer (some ⟨Ba + 1, 0, none⟩)]), el.1.val, .int .i64 el.1.w, undef, undef, undef, undef, undef, u50], defers := [] }) ?assign ?body ?done ?stop
      case assign =>
        intro l' el W1 K' hK'
        unfold stEnc
        gi_wp2
        simpa [stEnc] using hK'
      case done =>
        rintro D' ys W1 hD rfl ⟨hj, hf, hm⟩ hc hKD
        have hK := HK.out
        have hM := hm.cons HML.out hD (by omega) hKD
        have HM := hid hM
        have HJD := hid hj
        have HFD := hid hf
        clear hm hj hf hM hKD
        go_wp2
        refine Handed.intro (2 - (i + 1)) (by have := HGK.out; omega) (HKJ.out _ _ _ ⟨i + 1, D' :: ds, _, _, _, _, _, _, ⟨by omega, rfl, by rw [← HDA.out]; exact HJD.out, .inr ⟨by omega, by omega⟩, HFD.out, HM.out⟩, rfl⟩)
      case stop =>
        rintro D' c' pre W1 hD hSp ⟨rfl, hjx, hm⟩ hKD
        have hM := hm.cons HML.out hD (by omega) hKD
        refine wpIn_wide.2 ?_
        go_wp2
        refine leaves_marksO (I := Jx) (s := dn i ++ pre) HJX.out (n0 := w'.heap.size) (by omega) (D' :: ds) W1 hM hjx fun W2 hW2 => ?_
        refine ⟨_, results_none rfl _ _ _, ⟨_, rfl⟩, .inr ⟨_, ?_, hW2⟩⟩
        have h1 : dn i ++ pre <+: dn i ++ add := (List.prefix_append_right_inj _).2 hSp
        rw [HDA.out] at h1
        have h2 := h1.trans HPD.out
        rw [HD.out.2.2.2] at h2
        exact h2
      case body =>
        rintro l' pre el W1 hl hloop ⟨hj, hf, hm⟩ hlen hsz'
        have hyy := HY.out (dn i ++ pre) el W1 hj (by rw [List.length_append]; have := HNN.out; omega) (by omega)
        have c34 := hf.cell_some c3 (HLOW.out W.heap.size (by have := HWS.out; omega) (HNU.out W.heap.size (Nat.le_refl _) (by have := HWS.out; omega)))
        have HFW1 := hid hf
        have HM1 := hid hm
        have hwl : W.heap.size ≤ wr.heap.size := by omega
        unfold stEnc at hyy
        rw [List.append_assoc] at hyy
        obtain ⟨fn, tm, asg, bd, hyr, hR⟩ := YieldAt.round (l0 := l') (YieldAt.deep (m' := 5) hyy)
        have HR := hid hR
        obtain ⟨sv, hsv⟩ : ∃ sv, el.1.val = sv := ⟨_, rfl⟩
        obtain ⟨sw, hsw2⟩ : ∃ sw, el.1.w = sw := ⟨_, rfl⟩
        rw [hsv, hsw2] at hyr ⊢
        clear hyy hf hm hR hj hloop hsv hsw2
        gi_wp2_with fail
        refine HR.out.mono ?_
        clear hyr c34
        rintro e W5 ⟨(⟨rfl, hj5, hk5⟩ | ⟨rfl, hj5⟩), hkf⟩
        · have HJ5 := hid hj5
          have HK5 := hid hk5
          have HKF := hid hkf
          clear hj5 hk5 hkf
          gi_wp2
          exact ⟨⟨HKF.out.size, fun k o hk => HKF.out.same k o (by omega)⟩, HK5.out.mono (fun k _ h => .inl h), HJ5.out, HFW1.out.trans (HK5.out.mono (fun k _ h => .inl h)), HM1.out.keeps HKF.out (by omega)⟩
        · have HJ5 := hid hj5
          have HKF := hid hkf
          clear hj5 hkf
          gi_wp2
          exact ⟨⟨HKF.out.size, fun k o hk => HKF.out.same k o (by omega)⟩, rfl, HJ5.out, HM1.out.keeps HKF.out (by omega)⟩
    · obtain rfl : i = 2 := by omega
      go_wp2
      refine leaves_marksO (I := fun s W' => J s W' ∧ W.heap.size + 11 ≤ W'.heap.size) (s := dn 2) (OwnFrom.both HJ.out (fun s A B row hs hg hr => Nat.le_trans hs hg.size)) (n0 := w'.heap.size) (by omega) ds wr HMK.out ⟨HJI.out, by have := HSZ.out; omega⟩ fun W2 hW2 => ?_
      exact ⟨_, results_none rfl _ _ _, ⟨_, rfl⟩, .inl ⟨HD.out.2.2.2 ▸ hW2.1, hW2.2⟩⟩
  case region =>
    refine wp_region_held_drew (S := fun w' => Fr No Wb w' ∧ w'.cell? ⟨Br, 0, none⟩ = some (.pointer (some ⟨rb, 0, none⟩)) ∧ w'.cell? ⟨Bv, 0, none⟩ = some (.int .i64 (v : Nat))) (by kernel_rfl) ⟨(Fr.refl No Wb).drew, cr, cv⟩ ?_
    intro hS
    refine heldTake0 (v := .pointer (some ⟨rb, 0, none⟩)) (by kernel_rfl) (by kernel_rfl) (by kernel_rfl) (fun _ _ _ h => by cases h.1) ⟨by rfl, fun w' hw => ?_⟩ hS ?_
    · obtain ⟨_, v1, v2⟩ := hw
      go_simp
    try simp only [Act.put, List.setIfInBounds_toArray, List.set_cons_zero, List.set_cons_succ]
    refine heldTake1 (v := .int .i64 (v : Nat)) (by kernel_rfl) (by kernel_rfl) (by kernel_rfl) (fun _ _ _ h => by cases h.1) ⟨by rfl, fun w' hw => ?_⟩ hS ?_
    · obtain ⟨_, v1, v2⟩ := hw
      go_simp
    try simp only [Act.put, List.setIfInBounds_toArray, List.set_cons_zero, List.set_cons_succ]
    refine heldTake3 (v := .pointer (some ⟨rb, 0, none⟩)) (by kernel_rfl) (by kernel_rfl) (by kernel_rfl) (fun _ _ _ h => by cases h.1) ⟨by rfl, fun w' hw => ?_⟩ hS ?_
    · obtain ⟨_, v1, v2⟩ := hw
      go_simp
    try simp only [Act.put, List.setIfInBounds_toArray, List.set_cons_zero, List.set_cons_succ]
    refine heldTake4 (v := .int .i64 (v : Nat)) (by kernel_rfl) (by kernel_rfl) (by kernel_rfl) (fun _ _ _ h => by cases h.1) ⟨by rfl, fun w' hw => ?_⟩ hS ?_
    · obtain ⟨_, v1, v2⟩ := hw
      go_simp
    try simp only [Act.put, List.setIfInBounds_toArray, List.set_cons_zero, List.set_cons_succ]
    refine heldTake8 (v := .int .i64 0) (by kernel_rfl) (by kernel_rfl) (by kernel_rfl) (fun _ _ _ h => by cases h.1) ⟨by rfl, fun w' hw => ?_⟩ hS ?_
    · obtain ⟨_, v1, v2⟩ := hw
      go_simp
    try simp only [Act.put, List.setIfInBounds_toArray, List.set_cons_zero, List.set_cons_succ]
    refine heldOp2 (by kernel_rfl) (fun K' hK => ?_)
    go_simp
    refine (ruppers_calls rb (v : Nat) _).mono ?_
    rintro e W5 ⟨rfl, hW5⟩
    have F5 : Fr No Wb W5 := by rw [hW5]; exact (((Fr.refl No Wb).drew).alloc _).alloc _
    have n5 : W5.heap.size = Wb.heap.size + 2 := by rw [hW5]; simp
    have u0 : W5.cell? ⟨Wb.heap.size, 0, none⟩ = some (.pointer (some ⟨rb, 0, none⟩)) := by rw [hW5]; simp [go_sem]
    have u1 : W5.cell? ⟨Wb.heap.size + 1, 0, none⟩ = some (.int .i64 (v : Nat)) := by rw [hW5]; simp [go_sem]
    clear hW5
    go_simp
    refine hK.out _ _ ⟨F5, F5.cell_some cr (fun h => h), F5.cell_some cv (fun h => h)⟩ (fun hS => ?_)
    clear hK K'
    try simp only [Act.put, List.setIfInBounds_toArray, List.set_cons_zero, List.set_cons_succ]
    refine heldOp5 (by kernel_rfl) (fun K' hK => ?_)
    go_simp
    refine (rdives_calls rb (v : Nat) _).mono ?_
    rintro e W6 ⟨rfl, hW6⟩
    have f6 : Fr No W5 W6 := by rw [hW6]; exact (((Fr.refl No W5)).alloc _).alloc _
    have F6 : Fr No Wb W6 := F5.trans f6
    have n6 : W6.heap.size = Wb.heap.size + 4 := by rw [hW6]; simp; omega
    have d0 : W6.cell? ⟨Wb.heap.size + 2, 0, none⟩ = some (.pointer (some ⟨rb, 0, none⟩)) := by rw [← n5, hW6]; simp [go_sem]
    have d1 : W6.cell? ⟨Wb.heap.size + 2 + 1, 0, none⟩ = some (.int .i64 (v : Nat)) := by rw [← n5, hW6]; simp [go_sem]
    have u0 := f6.cell_some u0 (fun h => h)
    have u1 := f6.cell_some u1 (fun h => h)
    rw [n5]
    clear hW6 f6
    go_simp
    refine hK.out _ _ ⟨F6, F6.cell_some cr (fun h => h), F6.cell_some cv (fun h => h)⟩ (fun hS => ?_)
    clear hK K'
    try simp only [Act.put, List.setIfInBounds_toArray, List.set_cons_zero, List.set_cons_succ]
    refine heldOp6 (by kernel_rfl) (fun K' hK => ?_)
    go_simp
    have f7 : Fr No W6 (W6.alloc (.cells #[.func (.func 193) #[] #[.pointer (some ⟨Wb.heap.size, 0, none⟩), .pointer (some ⟨Wb.heap.size + 1, 0, none⟩)], .func (.func 195) #[] #[.pointer (some ⟨Wb.heap.size + 2, 0, none⟩), .pointer (some ⟨Wb.heap.size + 2 + 1, 0, none⟩)]] 217)) := (Fr.refl No W6).alloc _
    have o7 := heap_new W6 (.cells #[.func (.func 193) #[] #[.pointer (some ⟨Wb.heap.size, 0, none⟩), .pointer (some ⟨Wb.heap.size + 1, 0, none⟩)], .func (.func 195) #[] #[.pointer (some ⟨Wb.heap.size + 2, 0, none⟩), .pointer (some ⟨Wb.heap.size + 2 + 1, 0, none⟩)]] 217)
    have n7 : (W6.alloc (.cells #[.func (.func 193) #[] #[.pointer (some ⟨Wb.heap.size, 0, none⟩), .pointer (some ⟨Wb.heap.size + 1, 0, none⟩)], .func (.func 195) #[] #[.pointer (some ⟨Wb.heap.size + 2, 0, none⟩), .pointer (some ⟨Wb.heap.size + 2 + 1, 0, none⟩)]] 217)).heap.size = Wb.heap.size + 5 := by simp; omega
    rw [n6] at o7
    generalize (W6.alloc (.cells #[.func (.func 193) #[] #[.pointer (some ⟨Wb.heap.size, 0, none⟩), .pointer (some ⟨Wb.heap.size + 1, 0, none⟩)], .func (.func 195) #[] #[.pointer (some ⟨Wb.heap.size + 2, 0, none⟩), .pointer (some ⟨Wb.heap.size + 2 + 1, 0, none⟩)]] 217)) = W7 at f7 o7 n7 ⊢
    have F7 : Fr No Wb W7 := F6.trans f7
    have u0 := f7.cell_some u0 (fun h => h)
    have u1 := f7.cell_some u1 (fun h => h)
    have d0 := f7.cell_some d0 (fun h => h)
    have d1 := f7.cell_some d1 (fun h => h)
    have s0 := cell_of o7 0
    have s1 := cell_of o7 1
    refine hK.out _ _ ⟨F7, F7.cell_some cr (fun h => h), F7.cell_some cv (fun h => h)⟩ (fun hS => ?_)
    clear hK K'
    try simp only [Act.put, List.setIfInBounds_toArray, List.set_cons_zero, List.set_cons_succ]
    refine heldOp7 (by kernel_rfl) (fun K' hK => ?_)
    go_simp
    refine hK.out _ _ ⟨F7, F7.cell_some cr (fun h => h), F7.cell_some cv (fun h => h)⟩ (fun hS => ?_)
    clear hK K'
    try simp only [Act.put, List.setIfInBounds_toArray, List.set_cons_zero, List.set_cons_succ]
    refine wpAnyH_done (by kernel_rfl) ?_ _
    exact ⟨rfl, Wb.heap.size, Wb.heap.size + 2, Wb.heap.size + 4, rfl, F7, n7, by omega, by omega, by omega, by omega, rfl, .inl (by omega), u0, u1, d0, d1, s0, s1⟩

end Go.Proofs.YtoepbhacpidcbaaGreatDoor
