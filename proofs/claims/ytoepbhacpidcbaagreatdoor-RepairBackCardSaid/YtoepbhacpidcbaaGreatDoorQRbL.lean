/- The law 'RepairBack' returns true, by the contracts; walked. -/

import Derived.Test.YtoepbhacpidcbaaGreatDoorQBase
import Derived.Test.YtoepbhacpidcbaaGreatDoorQIdx
import Derived.Test.YtoepbhacpidcbaaGreatDoorQPerm
import Derived.Test.YtoepbhacpidcbaaGreatDoorQIdxB
import Derived.Test.YtoepbhacpidcbaaGreatDoorQRef
import Derived.Test.YtoepbhacpidcbaaGreatDoorQUnref
import Derived.Test.YtoepbhacpidcbaaGreatDoorQItr
import Derived.Test.YtoepbhacpidcbaaGreatDoorQUnE
import Derived.Test.YtoepbhacpidcbaaGreatDoorQDst
import Derived.Test.YtoepbhacpidcbaaGreatDoorQLnk
import Derived.Test.YtoepbhacpidcbaaGreatDoorQMid
import Derived.Test.YtoepbhacpidcbaaGreatDoorQBig
import Derived.Test.YtoepbhacpidcbaaGreatDoorQCp2
import Derived.Test.YtoepbhacpidcbaaGreatDoorQGoes
import Derived.Test.YtoepbhacpidcbaaGreatDoorQGOps
import Derived.Test.YtoepbhacpidcbaaGreatDoorQBld
import Derived.Test.YtoepbhacpidcbaaGreatDoorQG8
import Derived.Test.YtoepbhacpidcbaaGreatDoorQBcP
import Derived.Test.YtoepbhacpidcbaaGreatDoorQDMov
import Derived.Test.YtoepbhacpidcbaaGreatDoorQUp
import Derived.Test.YtoepbhacpidcbaaGreatDoorQBt1
import Derived.Test.YtoepbhacpidcbaaGreatDoorQHpK
import Derived.Test.YtoepbhacpidcbaaGreatDoorQOc
import Derived.Test.YtoepbhacpidcbaaGreatDoorQSqO
import Derived.Test.YtoepbhacpidcbaaGreatDoorQAps
import Derived.Test.YtoepbhacpidcbaaGreatDoorQKq
import Derived.Test.YtoepbhacpidcbaaGreatDoorQRBt
import Derived.Test.YtoepbhacpidcbaaGreatDoorQAll
import Derived.Test.YtoepbhacpidcbaaGreatDoorQWhl
import Derived.Test.YtoepbhacpidcbaaGreatDoorQBcL
import Derived.Test.YtoepbhacpidcbaaGreatDoorQBuL
import Derived.Test.YtoepbhacpidcbaaGreatDoorQClb
import Derived.Test.YtoepbhacpidcbaaGreatDoorQKs
import Derived.Test.YtoepbhacpidcbaaGreatDoorQAw19

set_option linter.unusedVariables false
set_option linter.unusedSimpArgs false
namespace Go.Proofs.YtoepbhacpidcbaaGreatDoor
open Go.RowKit Go.Shelf Go.Deep

theorem tn_eq {G : Gr} {k : Nat} (hk : k < 64) (htk : G.tk k = true) (c : Bool) : G.tn (k : Nat) c = { G with arc := fun i => if i = k then { G.arc k with c := c } else G.arc i } := by
  have hcode : G.code (k : Nat) = 0 := by unfold Gr.code; rw [if_pos (by omega), Int.toNat_natCast, htk]; rfl
  unfold Gr.tn Gr.tcode
  rw [if_pos hcode, Int.toNat_natCast]
  by_cases hc : (G.arc k).c = c
  · rw [if_pos hc, if_neg (by decide)]
    have : (fun i => if i = k then { G.arc k with c := c } else G.arc i) = G.arc := by
      funext i
      split
      · rename_i e; subst e; rw [← hc]
      · rfl
    rw [this]
  · rw [if_neg hc, if_pos rfl]
    rfl
theorem tn_back {G : Gr} {k : Nat} (hk : k < 64) (htk : G.tk k = true) (c : Bool) : (G.tn (k : Nat) c).tn (k : Nat) (G.arc k).c = G := by
  have h1 := tn_eq hk htk c
  have htk1 : (G.tn (k : Nat) c).tk k = true := by rw [h1]; exact htk
  rw [tn_eq hk htk1, h1]
  have : (fun i => if i = k then { (if k = k then { G.arc k with c := c } else G.arc k : Arc4) with c := (G.arc k).c } else (if i = k then { G.arc k with c := c } else G.arc i)) = G.arc := by
    funext i
    split
    · rename_i e; subst e; rw [if_pos rfl]
    · rfl
  exact congrArg (fun a => ({ n := G.n, most := G.most, arc := a, tk := G.tk } : Gr)) this
theorem tn_best {G : Gr} {k : Nat} (hk : k < 64) (htk : G.tk k = true) (c : Bool) (a b : Int) (h : ¬ (a = (G.arc k).t ∧ b = (G.arc k).h)) : (G.tn (k : Nat) c).best a b = G.best a b := by
  have hcode : G.code (k : Nat) = 0 := by unfold Gr.code; rw [if_pos (by omega), Int.toNat_natCast, htk]; rfl
  cases c with
  | true =>
    have := G.step_best ⟨2, (k : Nat), ⟨0, 0, 0, false⟩⟩ a b (by
      unfold Gr.endsC
      rw [if_neg (show ¬ (2 : Int) = 0 by decide), if_pos hcode]
      exact h)
    exact this
  | false =>
    have := G.step_best ⟨3, (k : Nat), ⟨0, 0, 0, false⟩⟩ a b (by
      unfold Gr.endsC
      rw [if_neg (show ¬ (3 : Int) = 0 by decide), if_pos hcode]
      exact h)
    exact this
theorem tn_wt {G : Gr} (hw : G.Wt) (k : Nat) (c : Bool) : (G.tn (k : Nat) c).Wt := by
  cases c with
  | true => exact hw.step ⟨2, (k : Nat), ⟨0, 0, 0, false⟩⟩
  | false => exact hw.step ⟨3, (k : Nat), ⟨0, 0, 0, false⟩⟩

/-- Entries that are not between two unlike vertices stay. -/
theorem Kp.run_off (G : Gr) : ∀ (m : Nat) (K : Kp) (a b : Nat), K.x.two (a : Nat) (b : Nat) = false → (Kp.run G m K).x.ent a b = K.x.ent a b
  | 0, K, a, b, h => rfl
  | m + 1, K, a, b, h => by
    rw [Kp.run_succ]
    split
    · rw [Kp.run_off G m (K.step G) a b h]
      show (K.x.part G K.v _).ent a b = _
      exact Ix.part_ent _ _ _ _ (fun e => by rw [Ix.low_two e] at h; cases h)
    · rfl

set_option maxRecDepth 100000 in
set_option maxHeartbeats 4000000 in
theorem shut_calls {w : World} {k : KLoc} {K : Kp} (h : KMem w k K) {L : GLoc} {G : Gr} (hg : GMem w L G) (hsep : ∀ j, L.own G.n j → ¬ k.all j) (i : Nat) (hi : i < 64) (htk : G.tk i = true) (c : Bool) :
    Calls Tryz.prog 44 #[.pointer (some ⟨L.b, 0, none⟩), .pointer (some ⟨k.b, 0, none⟩), .int .i64 (i : Nat), .bool c] w fun e w' => (∃ v, e = .returned v) ∧ GMem w' L (G.tn (i : Nat) c) ∧ KMem w' k (K.note (G.arc i).t (G.arc i).h) ∧ Fr (fun j => L.own G.n j ∨ k.own j) w w' := by
  have H := hid h
  have HG := hid hg
  have HS := hid hsep
  have HLT := hid (show ∀ j, L.own G.n j → j < w.heap.size from fun j hj => hg.own_lt hj)
  have harc := garc_calls hg i hi
  obtain ⟨⟨at_, ah, aw, ac⟩, ha⟩ : ∃ a, G.arc i = a := ⟨_, rfl⟩
  rw [ha, htk] at harc
  rw [ha]
  have HARC := hid harc
  clear h hg hsep harc ha htk
  go_enter Tryz.func44, Tryz.ntmps44
  go_wp2_with fail
  refine HARC.out.mono ?_
  rintro e w1 ⟨rfl, hf⟩
  have fa := (Fr.refl No w1).alloc (.cells #[.int .i64 at_, .int .i64 ah, .int .i64 aw, .bool ac] 49)
  have H1 := hid (H.out.no (hf.trans fa))
  have HG1 := hid (HG.out.no (hf.trans fa))
  have F1 := hid (hf.trans fa)
  have hs1 := hf.size
  have a0 : (w1.alloc (.cells #[.int .i64 at_, .int .i64 ah, .int .i64 aw, .bool ac] 49)).cell? ⟨w1.heap.size, 0, none⟩ = some (.int .i64 at_) := cell_of (heap_new w1 _) 0
  have a1 : (w1.alloc (.cells #[.int .i64 at_, .int .i64 ah, .int .i64 aw, .bool ac] 49)).cell? ⟨w1.heap.size, 1, none⟩ = some (.int .i64 ah) := cell_of (heap_new w1 _) 1
  clear hf fa H HG HARC
  cases c with
  | true =>
    go_wp2_with fail
    generalize (w1.alloc (.cells #[.int .i64 at_, .int .i64 ah, .int .i64 aw, .bool ac] 49)) = W1 at H1 HG1 F1 a0 a1 ⊢
    refine (gclose_calls HG1.out (i : Nat)).mono ?_
    rintro e w2 ⟨rfl, hg, hf⟩
    obtain ⟨cc, hcc⟩ : ∃ c, G.tcode (i : Nat) true = c := ⟨_, rfl⟩
    rw [hcc]
    have b0 := hf.cell_some a0 (fun h => by have := HLT.out _ h; simp only at this; omega)
    have b1 := hf.cell_some a1 (fun h => by have := HLT.out _ h; simp only at this; omega)
    have H2 := hid (H1.out.keep hf HS.out)
    have HG2 := hid hg
    have F2 := hid ((F1.out.no (F := L.own G.n)).trans hf)
    clear hg hf a0 a1 H1 HG1 F1 hcc
    go_wp2_with fail
    refine (knote_calls H2.out at_ ah).mono ?_
    rintro e w3 ⟨rfl, hf, hk⟩
    obtain ⟨nc, hnc⟩ : ∃ v : Int, (if K.x.low at_ ah < 0 then 1 else 0) = v := ⟨_, rfl⟩
    rw [hnc]
    clear hnc
    have HK3 := hid hk
    have HG3 := hid (HG2.out.fr hf (fun j hj h => HS.out j (by rw [← (G.tn_n (i : Nat) true).1]; exact hj) (KLoc.own_all h)))
    have F3 := hid ((F2.out.mono (G := fun j => L.own G.n j ∨ k.own j) (fun j _ h => .inl h)).trans (hf.mono (fun j _ h => .inr h)))
    clear hk hf H2 HG2 F2
    go_wp2
    go_end0
    exact ⟨⟨_, rfl⟩, HG3.out, HK3.out, F3.out⟩
  | false =>
    go_wp2_with fail
    generalize (w1.alloc (.cells #[.int .i64 at_, .int .i64 ah, .int .i64 aw, .bool ac] 49)) = W1 at H1 HG1 F1 a0 a1 ⊢
    refine (greopen_calls HG1.out (i : Nat)).mono ?_
    rintro e w2 ⟨rfl, hg, hf⟩
    obtain ⟨cc, hcc⟩ : ∃ c, G.tcode (i : Nat) false = c := ⟨_, rfl⟩
    rw [hcc]
    have b0 := hf.cell_some a0 (fun h => by have := HLT.out _ h; simp only at this; omega)
    have b1 := hf.cell_some a1 (fun h => by have := HLT.out _ h; simp only at this; omega)
    have H2 := hid (H1.out.keep hf HS.out)
    have HG2 := hid hg
    have F2 := hid ((F1.out.no (F := L.own G.n)).trans hf)
    clear hg hf a0 a1 H1 HG1 F1 hcc
    go_wp2_with fail
    refine (knote_calls H2.out at_ ah).mono ?_
    rintro e w3 ⟨rfl, hf, hk⟩
    obtain ⟨nc, hnc⟩ : ∃ v : Int, (if K.x.low at_ ah < 0 then 1 else 0) = v := ⟨_, rfl⟩
    rw [hnc]
    clear hnc
    have HK3 := hid hk
    have HG3 := hid (HG2.out.fr hf (fun j hj h => HS.out j (by rw [← (G.tn_n (i : Nat) false).1]; exact hj) (KLoc.own_all h)))
    have F3 := hid ((F2.out.mono (G := fun j => L.own G.n j ∨ k.own j) (fun j _ h => .inl h)).trans (hf.mono (fun j _ h => .inr h)))
    clear hk hf H2 HG2 F2
    go_wp2
    go_end0
    exact ⟨⟨_, rfl⟩, HG3.out, HK3.out, F3.out⟩

/-- Back to the index that was: what is whole of the same graph. -/
theorem Kp.back {G : Gr} {K : Kp} {x : Ix} (hok : K.Ok) (hi : K.Inv G) (hf : K.fl = K.x.n) (hw : Whole G x) (hx : x.Ok) (hn : K.x.n = x.n) (hr : K.x.rk = x.rk) (hb : K.x.by_ = x.by_) (ho : ∀ a b : Nat, x.two (a : Nat) (b : Nat) = false → K.x.ent a b = x.ent a b) : K.x = x := by
  have hwk := hi.whole hok hf
  have he : K.x.ent = x.ent := by
    funext a b
    cases ht : x.two (a : Nat) (b : Nat) with
    | false => exact ho a b ht
    | true =>
      obtain ⟨hne, h1, h2, h3, h4⟩ := two_iff ht
      exact hw.sole hwk hx hn hr hb (by omega) (by omega) (fun e => hne (by rw [e]))
  obtain ⟨⟨kn, kr, kb, ke⟩, kd⟩ := K
  obtain ⟨xn, xr, xb, xe⟩ := x
  simp only at hn hr hb he
  subst hn; subst hr; subst hb; subst he
  rfl

set_option maxRecDepth 100000 in
set_option maxHeartbeats 4000000 in
theorem rback_law (n : Nat) (A1 : Option Addr) (ln1 cp1 : Nat) (ch : Nat → Chg) (num id bt : Nat) (W : World) (hn : n ≤ 255) (hc : ChgsF W A1 ln1 ch) (b1 : ln1 ≤ 140737488351232) (hnum : (num : Int) ≤ 18446744073709551615) (hid8 : id ≤ 255) (hbt8 : bt ≤ 255) (hN : NoneVar W) (hT : TzVar W) :
    Calls Tryz.prog 9 #[.int .u8 (n : Nat), .slice A1 ln1 cp1, .int .u64 (num : Nat), .int .u8 (id : Nat), .int .u8 (bt : Nat)] W fun e w' => e = .returned (.bool true) ∧ Fr No W w' := by
  have HC := hid hc
  have HN := hid hN
  have HT := hid hT
  have hmod : n % 24 < 24 := Nat.mod_lt _ (by omega)
  have hd := rank_perm (1 + n % 24) num (by omega) (by omega)
  have HD := hid hd
  have HI := hid (Classical.choose_spec hd.inv)
  obtain ⟨g, hg⟩ : ∃ g, Classical.choose hd.inv = g := ⟨_, rfl⟩
  rw [hg] at HI
  clear hc hN hg hd hT
  go_enter Tryz.func9, Tryz.ntmps9
  go_wp2_with fail
  refine (awake19_calls W HN.out HT.out).mono ?_
  rintro e w1 ⟨rfl, hf⟩
  have G1 := hid hf
  clear hf
  go_wp2_with fail
  refine (made8_calls n A1 ln1 cp1 ch w1 hn (HC.out.fr G1.out) b1).mono ?_
  rintro e w2 ⟨Lg, b, rfl, hf, hm, hr, hbb, hgo⟩
  have hgn := ((Gr.zero (1 + n % 24) 64).steps_n ch (min ln1 150)).1
  have hgw := Gr.steps_wt (1 + n % 24) 64 ch (min ln1 150)
  obtain ⟨G, hG⟩ : ∃ G, (Gr.zero (1 + n % 24) 64).steps ch (min ln1 150) = G := ⟨_, rfl⟩
  rw [hG] at hm hr hgn hgw
  have hgn' : 1 + n % 24 = G.n := hgn.symm
  rw [hgn'] at HD HI hgo
  have HOWN : Hid (∀ j, Lg.own G.n j → W.heap.size ≤ j ∧ j < w2.heap.size ∧ j ≠ b) := hid fun j hj => ⟨by have := (hgo j hj).1; have := G1.out.size; omega, hm.own_lt hj, (hgo j hj).2⟩
  have HG := hid hm
  have HRG := hid hr
  have HGW := hid hgw
  have G2 := hid (G1.out.trans hf)
  have hb2 : b < w2.heap.size := Blk.lt hr
  clear hf hm hr hG hgw hgn hgo
  go_wp2_with fail
  refine (rank_law_calls n num w2 hn hnum).mono ?_
  rintro e w3 ⟨br, rfl, hf, hbr, hblk⟩
  rw [hgn'] at hblk ⊢
  have HB := hid hblk
  have HG3 := hid (HG.out.no hf)
  have HRG3 := hid (HRG.out.no hf)
  have G3 := hid (G2.out.trans hf)
  have hs3 := hf.size
  have hx0 := Ix.new_ok (show 0 < G.n by omega) HD.out HI.out.1 HI.out.2
  have HX0 := hid hx0
  clear hf hblk HG HRG hx0
  go_wp2_with fail
  refine (build_calls HG3.out (some ⟨br, 0, none⟩) G.n (fun i => ((rankOf G.n num i : Nat) : Int)) (fun _ => ⟨br, 0, rfl, fun j hj => by rw [Nat.zero_add]; exact HB.out.cell hj⟩) HD.out g HI.out.1 HI.out.2 (HN.out.fr G3.out (fun h => h))).mono ?_
  rintro e w4 ⟨Lx, rfl, hf, hx, hx1, hx2, hx3, hcx⟩
  obtain ⟨hxok, hwhole⟩ := HX0.out.build_whole HGW.out
  have hfit : ((Ix.new G.n (fun i => ((rankOf G.n num i : Nat) : Int)) g).build G).Fit := Ix.Fit.build (Ix.Fit.new _ _ _) G
  have hxn : ((Ix.new G.n (fun i => ((rankOf G.n num i : Nat) : Int)) g).build G).n = G.n := (Ix.build_n _ _)
  obtain ⟨x, hX⟩ : ∃ x, (Ix.new G.n (fun i => ((rankOf G.n num i : Nat) : Int)) g).build G = x := ⟨_, rfl⟩
  rw [hX] at hx hxok hwhole hfit hxn
  have HX4 := hid hx
  have HG4 := hid (HG3.out.no hf)
  have HRG4 := hid (HRG3.out.no hf)
  have G4 := hid (G3.out.trans hf)
  have HXOK := hid hxok
  have HWH := hid hwhole
  have HFIT := hid hfit
  have HXN := hid hxn
  have HLX : Hid (w2.heap.size ≤ Lx.b ∧ w2.heap.size ≤ Lx.br ∧ w2.heap.size ≤ Lx.bb) := hid (by omega)
  have hs4 := hf.size
  clear hf hx hx1 hx2 hx3 hcx hxok hwhole hfit hxn hX HG3 HRG3 HX0
  go_wp2_with fail
  refine (kof_calls HX4.out HFIT.out (HT.out.no G4.out)).mono ?_
  rintro e w5 ⟨k, rfl, hf, hk, hfrom⟩
  have HK5 := hid hk
  have HFROM := hid hfrom
  have HX5 := hid (HX4.out.no hf)
  have HG5 := hid (HG4.out.no hf)
  have HRG5 := hid (HRG4.out.no hf)
  have G5 := hid (G4.out.trans hf)
  have hs5 := hf.size
  have HQ5 : Hid (k.Q.b < w5.heap.size ∧ k.L.b < w5.heap.size) := hid ⟨hk.q.lt, hk.x.lt⟩
  have HX4L : Hid (Lx.b < w4.heap.size ∧ Lx.br < w4.heap.size ∧ Lx.bb < w4.heap.size) := hid ⟨HX4.out.lt, HX4.out.hr.1, HX4.out.hb.1⟩
  clear hf hk hfrom HX4 HG4 HRG4
  obtain ⟨i, hi⟩ : ∃ i, id % 64 = i := ⟨_, rfl⟩
  have hi64 : i < 64 := by omega
  have hii : (id : Int) % 64 = (i : Nat) := by omega
  have hit : Int.tmod (id : Int) 64 = (i : Nat) := by rw [Int.tmod_eq_emod_of_nonneg (by omega)]; exact hii
  obtain ⟨m, hm⟩ : ∃ m, bt % 8 = m := ⟨_, rfl⟩
  have hmm : (bt : Int) % 8 = (m : Nat) := by omega
  have hmt : Int.tmod (bt : Int) 8 = (m : Nat) := by rw [Int.tmod_eq_emod_of_nonneg (by omega)]; exact hmm
  go_wp2_with fail
  refine (rgarc_calls HRG5.out i hi64).mono ?_
  obtain ⟨⟨rt, rh, rwt, rc⟩, hra⟩ : ∃ y, G.rarc i = y := ⟨_, rfl⟩
  obtain ⟨ok, hok⟩ : ∃ o, G.tk i = o := ⟨_, rfl⟩
  rw [hra, hok]
  rintro e w6 ⟨rfl, hf⟩
  have fa := (Fr.refl No w6).alloc (.cells #[.int .i64 rt, .int .i64 rh, .int .i64 rwt, .bool rc] 49)
  have a3 : (w6.alloc (.cells #[.int .i64 rt, .int .i64 rh, .int .i64 rwt, .bool rc] 49)).cell? ⟨w6.heap.size, 3, none⟩ = some (.bool rc) := cell_of (heap_new w6 _) 3
  have G6 := hid (G5.out.trans (hf.trans fa))
  have HK6 := hid (HK5.out.no (hf.trans fa))
  have HX6 := hid (HX5.out.no (hf.trans fa))
  have HG6 := hid (HG5.out.no (hf.trans fa))
  have HRG6 := hid (HRG5.out.no (hf.trans fa))
  have hs6 := hf.size
  have HRA := hid hra
  have HOKK := hid hok
  clear hf fa hra hok HK5 HX5 HG5 HRG5
  cases ok with
  | false =>
    go_wp2_with fail
    refine (kdirty_calls HK6.out).mono ?_
    rintro e w7 ⟨t, rfl, ht, hf⟩
    obtain rfl : t = 0 := ht.zero_iff.2 (fun i hi => by cases hi)
    have F := hid (G6.out.trans hf)
    clear ht hf
    go_wp2
    go_ret
    exact ⟨rfl, F.out⟩
  | true =>
    have har : G.arc i = ⟨rt, rh, rwt, rc⟩ := by
      have := HRA.out
      unfold Gr.rarc at this
      rw [HOKK.out, if_pos rfl] at this
      exact this
    have hsep : ∀ j, Lg.own G.n j → ¬ k.all j := fun j hj ha => by
      obtain ⟨h1, h2, h3⟩ := HOWN.out j hj
      have h4 := HN.out.lt
      have h5 := HT.out.lt
      obtain ⟨f1, f2, f3, f4, f5, f6, f7⟩ := HFROM.out
      unfold KLoc.all at ha
      omega
    have hkW : ∀ j, k.own j → w4.heap.size ≤ j := fun j hj => by
      obtain ⟨f1, f2, f3, f4, f5, f6, f7⟩ := HFROM.out
      rcases hj with e | e <;> omega
    have HAR := hid har
    have HSEP := hid hsep
    have HKW := hid hkW
    have hx6 : w6.heap.size < (w6.alloc (.cells #[.int .i64 rt, .int .i64 rh, .int .i64 rwt, .bool rc] 49)).heap.size := by simp
    have hown6 : ∀ j, Lg.own G.n j ∨ k.own j → j ≠ w6.heap.size := fun j hj => by
      rcases hj with h | h
      · have := (HOWN.out j h).2.1; omega
      · have h1 := HK6.out.all_lt (KLoc.own_all h)
        intro e
        have hq := HK6.out.q.lt
        have hk := h
        subst e
        rcases hk with e | e
        · have := HFROM.out.qb; have h3 : k.Q.b < w5.heap.size := HQ5.out.1; omega
        · have h3 : k.L.b < w5.heap.size := HQ5.out.2; omega
    have HF0 : Hid (∀ j, Lg.own G.n j ∨ k.own j → W.heap.size ≤ j ∧ j ≠ b ∧ j ≠ Lx.b ∧ j ≠ Lx.br ∧ j ≠ Lx.bb ∧ j ≠ 0) := hid fun j hj => by
      have h4 := HN.out.lt
      have q1 := HX4L.out
      have q2 := HLX.out
      have q3 := G2.out.size
      rcases hj with h | h
      · have := HOWN.out j h; omega
      · have := HKW.out j h; omega
    have HOWN6 := hid hown6
    have KN : Hid (∀ c, (G.tn (i : Nat) c).n = G.n) := hid fun c => (G.tn_n (i : Nat) c).1
    clear har hsep hkW hown6
    go_wp2_with fail
    generalize (w6.alloc (.cells #[.int .i64 rt, .int .i64 rh, .int .i64 rwt, .bool rc] 49)) = W6 at a3 G6 HK6 HX6 HG6 HRG6 hx6 ⊢
    refine (shut_calls HK6.out HG6.out HSEP.out i hi64 HOKK.out true).mono ?_
    rintro e w7 ⟨⟨v7, rfl⟩, hg, hk, hf⟩
    rw [HAR.out] at hk
    have hinv1 : (Kp.note ⟨x, fun _ => false⟩ rt rh).Inv (G.tn (i : Nat) true) := HWH.out.inv.graph rt rh (fun a b h => tn_best hi64 HOKK.out true a b (by rw [HAR.out]; exact h))
    obtain ⟨K1, hK1⟩ : ∃ K, (Kp.note ⟨x, fun _ => false⟩ rt rh) = K := ⟨_, rfl⟩
    rw [hK1] at hk hinv1
    have hk1x : K1.x = x := by rw [← hK1]; rfl
    have HK1X := hid hk1x
    have HINV1 := hid hinv1
    have HK7 := hid hk
    have HG7 := hid hg
    have HF7 := hid hf
    have b3 := hf.cell_some a3 (fun h => HOWN6.out _ h rfl)
    clear hg hk hf hinv1 hK1 hk1x a3 HK6 HG6
    have htk1 : (G.tn (i : Nat) true).tk i = true := by rw [tn_eq hi64 HOKK.out]; exact HOKK.out
    have harc1 : (G.tn (i : Nat) true).arc i = ⟨rt, rh, rwt, true⟩ := by
      rw [tn_eq hi64 HOKK.out]
      show (if i = i then { G.arc i with c := true } else G.arc i : Arc4) = _
      rw [if_pos rfl, HAR.out]
    have HTK1 := hid htk1
    have HARC1 := hid harc1
    have HWT1 := hid (tn_wt HGW.out i true)
    have HSEP1 : Hid (∀ j, Lg.own (G.tn (i : Nat) true).n j → ¬ k.all j) := hid fun j hj => HSEP.out j (by rw [← KN.out true]; exact hj)
    have HBK : Hid ((G.tn (i : Nat) true).tn (i : Nat) rc = G) := hid (by have := tn_back hi64 HOKK.out true; rwa [HAR.out] at this)
    have HTB : Hid (∀ a b : Nat, ¬ ((a : Int) = rt ∧ (b : Int) = rh) → G.best (a : Nat) (b : Nat) = (G.tn (i : Nat) true).best (a : Nat) (b : Nat)) := hid fun a b h => (tn_best hi64 HOKK.out true a b (by rw [HAR.out]; exact h)).symm
    obtain ⟨H, hH⟩ : ∃ H, G.tn (i : Nat) true = H := ⟨_, rfl⟩
    have HNN := hid (KN.out true)
    rw [hH] at HINV1 HG7 HTK1 HARC1 HWT1 HSEP1 HBK HTB HNN
    clear htk1 harc1 hH
    go_wp2_with fail
    refine (krun_calls HK7.out HG7.out HWT1.out (fun j hj h => HSEP1.out j hj (KLoc.own_all h)) (m : Nat)).mono ?_
    rintro e w8 ⟨v8, rfl, _, _, hf, hk⟩
    rw [Int.toNat_natCast] at hk
    have hinv2 := Kp.Inv.run HWT1.out m HK7.out.ok HINV1.out
    have hn2 := Kp.run_n H m K1
    have hoff2 := Kp.run_off H m K1
    obtain ⟨K2, hK2⟩ : ∃ K, Kp.run H m K1 = K := ⟨_, rfl⟩
    rw [hK2] at hk hinv2 hn2 hoff2
    have HK8 := hid hk
    have HG8 := hid (HG7.out.fr hf (fun j hj h => HSEP1.out j hj (KLoc.own_all h)))
    have HF8 := hid (HF7.out.trans (hf.mono (fun j _ h => .inr h)))
    have b4 := hf.cell_some b3 (fun h => HOWN6.out _ (.inr h) rfl)
    have HINV2 := hid hinv2
    have HN2 := hid (And.intro hn2 hoff2)
    clear hf hk hinv2 hn2 hoff2 hK2 b3 HK7 HG7 HF7 HINV1
    go_wp2_with fail
    refine (shut_calls HK8.out HG8.out HSEP1.out i hi64 HTK1.out rc).mono ?_
    rintro e w9 ⟨⟨v9, rfl⟩, hg, hk, hf⟩
    rw [HARC1.out] at hk
    rw [HBK.out] at hg
    rw [HNN.out] at hf
    have hinv3 : (K2.note rt rh).Inv G := HINV2.out.graph rt rh HTB.out
    obtain ⟨K3, hK3⟩ : ∃ K, K2.note rt rh = K := ⟨_, rfl⟩
    have hk3x : K3.x = K2.x := by rw [← hK3]; rfl
    have hk : KMem w9 k K3 := by rw [← hK3]; exact hk
    rw [hK3] at hinv3
    have HK3X := hid hk3x
    have HINV3 := hid hinv3
    have HK9 := hid hk
    have HG9 := hid hg
    have HF9 := hid (HF8.out.trans hf)
    have HRG9 := hid (HRG6.out.fr HF9.out (fun h => (HF0.out _ h).2.1 rfl))
    have cn := HRG9.out.c0
    clear hg hk hf hinv3 hK3 hk3x HK8 HG8 HF8 HINV2 b4
    go_wp2_with fail
    refine (krun_calls HK9.out HG9.out HGW.out (fun j hj h => HSEP.out j hj (KLoc.own_all h)) (G.n : Nat)).mono ?_
    rintro e w10 ⟨v10, rfl, _, _, hf, hk⟩
    rw [Int.toNat_natCast] at hk
    have hinv4 := Kp.Inv.run HGW.out G.n HK9.out.ok HINV3.out
    have hn4 := Kp.run_n G G.n K3
    have hoff4 := Kp.run_off G G.n K3
    have hxE : K3.x.n = x.n ∧ K3.x.rk = x.rk ∧ K3.x.by_ = x.by_ := by
      obtain ⟨⟨h1, h2, h3⟩, _⟩ := HN2.out
      rw [HK3X.out, h1, h2, h3, HK1X.out]
      exact ⟨rfl, rfl, rfl⟩
    have hdr := HK9.out.ok.drain HGW.out G.n (by have := HXN.out; have := hxE.1; omega)
    have hent : ∀ a b : Nat, x.two (a : Nat) (b : Nat) = false → K3.x.ent a b = x.ent a b := fun a b h => by
      rw [HK3X.out, HN2.out.2 a b (by rw [HK1X.out]; exact h), HK1X.out]
    have hoff5 : ∀ a b : Nat, x.two (a : Nat) (b : Nat) = false → (Kp.run G G.n K3).x.ent a b = x.ent a b := fun a b h => by
      rw [hoff4 a b (by unfold Ix.two at h ⊢; rw [hxE.1]; exact h)]
      exact hent a b h
    obtain ⟨K4, hK4⟩ : ∃ K, Kp.run G G.n K3 = K := ⟨_, rfl⟩
    rw [hK4] at hk hinv4 hn4 hoff5 hdr
    have hfl4 : K4.fl = K4.x.n := by rw [hn4.1]; exact hdr
    have hback : K4.x = x := Kp.back hk.ok hinv4 hfl4 HWH.out HXOK.out (hn4.1.trans hxE.1) (hn4.2.1.trans hxE.2.1) (hn4.2.2.trans hxE.2.2) hoff5
    have HBACK := hid hback
    have HFL4 := hid hfl4
    have HK10 := hid hk
    have HF10 := hid (HF9.out.trans (hf.mono (fun j _ h => .inr h)))
    have HX10 := hid (HX6.out.fr HF10.out (fun h => (HF0.out _ h).2.2.1 rfl) (fun h => (HF0.out _ h).2.2.2.1 rfl) (fun h => (HF0.out _ h).2.2.2.2.1 rfl) (fun h => (HF0.out _ h).2.2.2.2.2 rfl))
    have G10 := hid (G6.out.trans' HF10.out (fun j hj h => by have := (HF0.out j h).1; omega))
    clear hf hk hinv4 hn4 hoff4 hxE hdr hent hoff5 hK4 hfl4 hback cn HK9 HG9 HF9 HRG9 HINV3 HF10 HX6 HRG6
    go_wp2_with fail
    refine (kindex_calls HK10.out).mono ?_
    rintro e w11 ⟨C, rfl, hf, hc, _, _, _, _, _, _⟩
    rw [HBACK.out] at hc
    have HC11 := hid hc
    have HK11 := hid (HK10.out.no hf)
    have HX11 := hid (HX10.out.no hf)
    have G11 := hid (G10.out.trans hf)
    clear hf hc HK10 HX10
    go_wp2_with fail
    refine (kdirty_calls HK11.out).mono ?_
    rintro e w12 ⟨t, rfl, ht, hf⟩
    obtain rfl := HK11.out.ok.dirty0 HFL4.out ht
    have HC12 := hid (HC11.out.no hf)
    have HX12 := hid (HX11.out.no hf)
    have G12 := hid (G11.out.trans hf)
    clear hf ht HK11 HC11 HX11
    go_wp2_with fail
    refine (isame_calls HC12.out HX12.out rfl rfl).mono ?_
    rintro e w13 ⟨r, rfl, hr, hf⟩
    obtain rfl : r = true := hr.2 (fun _ _ => rfl)
    have F := hid (G12.out.trans hf)
    clear hf hr
    go_wp2
    go_ret
    exact ⟨rfl, F.out⟩

end Go.Proofs.YtoepbhacpidcbaaGreatDoor
