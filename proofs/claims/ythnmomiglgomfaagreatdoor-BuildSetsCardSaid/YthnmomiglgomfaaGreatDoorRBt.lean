/- ringroadref16.Between: how far it is by way of lower ones, as the document says; walked. -/
import Derived.Test.YthnmomiglgomfaaGreatDoorTw1
import Derived.Test.YthnmomiglgomfaaGreatDoorBW
import Derived.Deep.Cut
import Derived.Deep.RegionHeld3
set_option linter.unusedVariables false
set_option linter.unusedSimpArgs false
namespace Go.Proofs.YthnmomiglgomfaaGreatDoor
open Go.RowKit Go.Deep

theorem fw1_b {L : Nat → Bool} {n m a b : Nat} {D : Mat} (h : MB n D) (hm : m < n) (ha : a < n) (hb : b < n) : MB n (fw1 L m a b D) := fun i j hi hj => by
  unfold fw1
  split
  · unfold upd2; split
    · exact tw_b (h a m ha hm) (h m b hm hb)
    · exact h i j hi hj
  · exact h i j hi hj
theorem fwB_b {L : Nat → Bool} {n m a : Nat} {D : Mat} (h : MB n D) (hm : m < n) (ha : a < n) : ∀ k, k ≤ n → MB n (fwB L m a D k)
  | 0, _ => h
  | k + 1, hk => fw1_b (fwB_b h hm ha k (by omega)) hm ha (by omega)
theorem fwA_b {L : Nat → Bool} {n m : Nat} {D : Mat} (h : MB n D) (hm : m < n) : ∀ k, k ≤ n → MB n (fwA L n m D k)
  | 0, _ => h
  | k + 1, hk => fwB_b (fwA_b h hm k (by omega)) hm (by omega) n (Nat.le_refl n)
theorem fwM_b {L : Nat → Bool} {n : Nat} {D : Mat} (h : MB n D) : ∀ k, k ≤ n → MB n (fwM L n D k)
  | 0, _ => h
  | k + 1, hk => fwA_b (fwM_b h k (by omega)) (by omega) n (Nat.le_refl n)

/-- A square of 24 lies at B: its first n rows and places hold D. -/
def Sq (W : World) (B n : Nat) (D : Mat) : Prop := ∃ M : Nat → Int, Blk W B 576 36 (fun i => .int .i64 (M i)) ∧ ∀ i j, i < n → j < n → M (i * 24 + j) = D i j
theorem Sq.fr {W W' : World} {B n : Nat} {D : Mat} (h : Sq W B n D) {F : Nat → Prop} (hf : Fr F W W') (hF : ¬ F B) : Sq W' B n D := by
  obtain ⟨M, h1, h2⟩ := h
  exact ⟨M, h1.fr hf hF, h2⟩
theorem Sq.cell {W : World} {B n : Nat} {D : Mat} (h : Sq W B n D) (hn : n ≤ 24) {i j : Nat} (hi : i < n) (hj : j < n) : W.cell? ⟨B, i * 24 + j, none⟩ = some (.int .i64 (D i j)) := by
  obtain ⟨M, h1, h2⟩ := h
  rw [h1.cell (show i * 24 + j < 576 by omega), h2 i j hi hj]
theorem Sq.frozen {W : World} {B n : Nat} {D : Mat} (h : Sq W B n D) (i : Nat) : W.frozen? ⟨B, i, none⟩ = false := by
  obtain ⟨M, h1, _⟩ := h
  exact h1.frozen i
theorem Sq.lt {W : World} {B n : Nat} {D : Mat} (h : Sq W B n D) : B < W.heap.size := by
  obtain ⟨M, h1, _⟩ := h
  exact h1.lt
theorem Sq.set {W : World} {B n : Nat} {D : Mat} (h : Sq W B n D) (hn : n ≤ 24) {a b : Nat} (ha : a < n) (hb : b < n) (z : Int) : Sq (W.setCell ⟨B, a * 24 + b, none⟩ (.int .i64 z)) B n (upd2 D a b z) := by
  obtain ⟨M, h1, h2⟩ := h
  refine ⟨fun k => if k = a * 24 + b then z else M k, (h1.setCell (a * 24 + b) (.int .i64 z)).congr (fun k hk => ?_), fun i j hi hj => ?_⟩
  · show (if k = a * 24 + b then Value.int .i64 z else Value.int .i64 (M k)) = Value.int .i64 (if k = a * 24 + b then z else M k)
    split <;> rfl
  · show (if i * 24 + j = a * 24 + b then z else M (i * 24 + j)) = if i = a ∧ j = b then z else D i j
    by_cases e : i = a ∧ j = b
    · rw [if_pos e, if_pos (by omega)]
    · rw [if_neg e, if_neg (by omega)]; exact h2 i j hi hj
theorem Sq.congr {W : World} {B n : Nat} {D D' : Mat} (h : Sq W B n D) (e : ∀ i j, i < n → j < n → D i j = D' i j) : Sq W B n D' := by
  obtain ⟨M, h1, h2⟩ := h
  exact ⟨M, h1, fun i j hi hj => (h2 i j hi hj).trans (e i j hi hj)⟩
/-- What is filled so far. -/
def fillD (E : Mat) (a b : Nat) : Mat := fun i j => if i < a ∨ (i = a ∧ j < b) then E i j else 0
theorem fillD_set (E : Mat) (a b : Nat) : upd2 (fillD E a b) a b (E a b) = fillD E a (b + 1) := by
  funext i j
  unfold upd2 fillD
  by_cases e : i = a ∧ j = b
  · obtain ⟨rfl, rfl⟩ := e
    rw [if_pos ⟨rfl, rfl⟩, if_pos (by omega)]
  · rw [if_neg e]
    by_cases h : i < a ∨ (i = a ∧ j < b)
    · rw [if_pos h, if_pos (by omega)]
    · rw [if_neg h, if_neg (by omega)]

set_option maxRecDepth 100000 in
set_option maxHeartbeats 1000000 in
theorem lesser_calls (a b : Int) (w : World) : Calls Tryz.prog 82 #[.int .i64 a, .int .i64 b] w fun e w' => e = .returned (.int .i64 (min a b)) ∧ Fr No w w' := by
  by_cases h : a < b
  · have e : min a b = a := by omega
    rw [e]
    go_enter Tryz.func82, Tryz.ntmps82
    go_wp2
    go_ret
    exact ⟨rfl, Fr.refl _ _⟩
  · have e : min a b = b := by omega
    rw [e]
    go_enter Tryz.func82, Tryz.ntmps82
    go_wp2
    go_ret
    exact ⟨rfl, Fr.refl _ _⟩

theorem sq_size : Tryz.zeroCells36.size = 576 := Tryz.zeroCells36_size
set_option maxRecDepth 100000 in
theorem sq_all : ((List.range 576).all fun i => isZ (Tryz.zeroCells36[i]!)) = true := by kernel_rfl
theorem sq_zero (i : Nat) (hi : i < 576) : Tryz.zeroCells36[i]? = some (.int .i64 0) := by
  have h := List.all_eq_true.1 sq_all i (by simpa using hi)
  have hl : i < Tryz.zeroCells36.size := by rw [sq_size]; exact hi
  rw [Array.getElem?_eq_getElem hl]
  have e := isZ_eq h
  rw [getElem!_pos Tryz.zeroCells36 i hl] at e
  rw [e]

def RbtR (w : World) (d : Int) (e : Ending) (w' : World) : Prop := e = .returned (.int .i64 d) ∧ Fr No w w'

set_option maxRecDepth 100000 in
set_option maxHeartbeats 4000000 in
theorem rbtw_calls {w : World} {b : Nat} {G : Gr} (h : RGM w b G) (hn1 : 1 ≤ G.n) (hn : G.n ≤ 24) (hw : G.Wt) (br off c : Nat) (f : Nat → Int) (hc : ∀ j, j < G.n → w.cell? ⟨br, off + j, none⟩ = some (.int .i64 (f j))) (u v : Nat) (hu : u < G.n) (hv : v < G.n)
    (L : Nat → Bool) (hL : ∀ z, z < G.n → L z = decide (f z < min (f u) (f v))) :
    Calls Tryz.prog 32 #[.pointer (some ⟨b, 0, none⟩), .slice (some ⟨br, off, none⟩) G.n c, .int .i64 (u : Nat), .int .i64 (v : Nat)] w (RbtR w (G.btw L u v)) := by
  have H := hid h
  have HCC := hid hc
  have HL := hid hL
  have HW := hid hw
  have cu := hc u hu
  have cv := hc v hv
  have lbr := cell_lt cu
  simp only at lbr
  obtain ⟨fu, hfu⟩ : ∃ x, f u = x := ⟨_, rfl⟩
  obtain ⟨fv, hfv⟩ : ∃ x, f v = x := ⟨_, rfl⟩
  rw [hfu] at cu
  rw [hfv] at cv
  rw [hfu, hfv] at HL
  obtain ⟨lw, hlw⟩ : ∃ x, min fu fv = x := ⟨_, rfl⟩
  have HLW := hid hlw
  rw [hlw] at HL
  have hu2 : (u : Int) < G.n := by omega
  have hv2 : (v : Int) < G.n := by omega
  have kku : ∀ nn : Fam w, nn.v.cell? ⟨br, off + u, none⟩ = some (.int .i64 fu) := Fam.cell cu
  have kkv : ∀ nn : Fam w, nn.v.cell? ⟨br, off + v, none⟩ = some (.int .i64 fv) := Fam.cell cv
  have hls : ∀ nn : Fam w, Calls Tryz.prog 82 #[.int .i64 fu, .int .i64 fv] nn.v fun e w' => e = .returned (.int .i64 lw) ∧ Fr No nn.v w' := fun nn => by rw [← hlw]; exact lesser_calls fu fv nn.v
  clear h hc hL hw cu cv hfu hfv hlw
  go_enter Tryz.func32, Tryz.ntmps32
  go_wp2_with fail
  refine wp_region_fam (by kernel_rfl) (by kernel_rfl) ?_
  repeat (go_big_quiet_step (exact Calls.fam (hls _)))
  refine wpQuiet_nil ?_
  rintro w1 ⟨⟨w1, hf1⟩, rfl⟩
  have F1 := hid hf1
  clear hf1 kku kkv hls
  have hz0 : Sq (w1.alloc (.cells Tryz.zeroCells36 36)) w1.heap.size G.n (fillD G.bst 0 0) := by
    refine ⟨fun _ => 0, ?_, fun i j _ _ => by unfold fillD; rw [if_neg (by omega)]⟩
    have := Blk.new w1 Tryz.zeroCells36 36 (fun _ => .int .i64 0) (fun i hi => by rw [sq_size] at hi; exact sq_zero i hi)
    rw [sq_size] at this
    exact this
  have HZ0 := hid hz0
  have F2 := hid (F1.out.alloc (.cells Tryz.zeroCells36 36))
  have hB10 : w.heap.size ≤ w1.heap.size := F1.out.size
  clear hz0
  obtain ⟨W2, hW2⟩ : ∃ W2, w1.alloc (.cells Tryz.zeroCells36 36) = W2 := ⟨_, rfl⟩
  obtain ⟨B, hB⟩ : ∃ B, w1.heap.size = B := ⟨_, rfl⟩
  rw [hW2, hB] at HZ0
  rw [hW2] at F2
  rw [hB] at hB10
  have hbstB : MB G.n G.bst := fun i j _ _ => G.bst_b HW.out i j
  have HBB := hid hbstB
  clear hbstB
  go_upto_region 3 with fail
  clear hW2 hB
  go_wp2
  go_loopg [11] (G.n + 1) (fun gk p wr => ∃ a : Nat, p = .int .i64 a ∧ a ≤ G.n ∧ gk = G.n + 1 - a ∧ Fr No w wr ∧ Sq wr B G.n (fillD G.bst a 0))
  case atStart => exact ⟨0, rfl, by omega, rfl, F2.out, HZ0.out⟩
  case round =>
    clear HZ0 F2
    obtain ⟨a, rfl, ha, hgk, hf, hs⟩ := hrel
    have HGK := hid hgk
    have HF := hid hf
    have HS := hid hs
    have c0 := (H.out.no hf).c0
    clear hgk hf hs
    by_cases hlt : a < G.n
    · have hlt2 : (a : Int) < G.n := by omega
      have ha24 : (a : Int) < 24 := by omega
      go_wp2
      clear c0
      go_loopg [12] (G.n + 1) (fun gk p wr => ∃ q : Nat, p = .int .i64 q ∧ q ≤ G.n ∧ gk = G.n + 1 - q ∧ Fr No w wr ∧ Sq wr B G.n (fillD G.bst a q))
      case atStart => exact ⟨0, rfl, by omega, rfl, HF.out, HS.out⟩
      case round =>
        clear HF HS
        obtain ⟨q, rfl, hq, hgk2, hf, hs⟩ := hrel
        have HGK2 := hid hgk2
        have HF := hid hf
        have HS := hid hs
        have c0 := (H.out.no hf).c0
        clear hgk2 hf hs
        by_cases hlq : q < G.n
        · have hlq2 : (q : Int) < G.n := by omega
          have hq24 : (q : Int) < 24 := by omega
          obtain ⟨⟨bw, bi⟩, hbst⟩ : ∃ y, G.best (a : Nat) (q : Nat) = y := ⟨_, rfl⟩
          have hbq : G.bst a q = bw := by unfold Gr.bst; rw [hbst]
          have hcb : ∀ nn : Fam wr, Calls Tryz.prog 46 #[.pointer (some ⟨b, 0, none⟩), .int .i64 (a : Nat), .int .i64 (q : Nat)] nn.v fun e w' => e = .returned (.tuple #[.int .i64 bw, .int .i64 bi]) ∧ Fr No nn.v w' := fun nn => by
            have := rgbest_calls ((H.out.no HF.out).no nn.h) (a : Nat) (q : Nat)
            rw [hbst] at this
            exact this
          have HBQ := hid hbq
          clear hbst hbq
          go_wp2_with fail
          clear c0
          go_region_held3 (fun w' => Fr (One B) wr w')
            (first | assumption | exact Fr.set1 (by assumption) _ _ | exact (Fr.refl _ _).drew)
            (first
              | (go_at_call 46
                 refine (hcb ⟨_, (Fr.refl No wr).drew⟩).mono ?_
                 rintro e w5 ⟨rfl, hf8⟩
                 have hf9 : Fr No wr w5 := ((Fr.refl No wr).drew).trans hf8
                 have HS5 := hid (HS.out.fr hf9 (fun h => h))
                 have HF5 := hid (HF.out.trans hf9)
                 have s1 := HS5.out.cell hn hlt hlq
                 have s2 := HS5.out.frozen (a * 24 + q)
                 have hk : Fr (One B) wr w5 := hf9.no
                 clear hf8))
          clear hcb HS HF
          go_wp2
          go_roundg (G.n + 1 - (q + 1))
          case measure => have := HGK2.out; omega
          case rel =>
            have hset := HS5.out.set hn hlt hlq bw
            rw [← HBQ.out, fillD_set] at hset
            exact ⟨q + 1, by go_num, by omega, rfl, HF5.out.setCell (p := ⟨B, a * 24 + q, none⟩) (.inr hB10) _, by rw [← HBQ.out]; exact hset⟩
        · obtain rfl : q = G.n := by omega
          go_wp2
          go_roundg (G.n + 1 - (a + 1))
          case measure => have := HGK.out; omega
          case rel => exact ⟨a + 1, by go_num, by omega, rfl, HF.out, HS.out.congr (fun i j hi hj => by
            unfold fillD
            by_cases h : i < a ∨ (i = a ∧ j < G.n)
            · rw [if_pos h, if_pos (by omega)]
            · rw [if_neg h, if_neg (by omega)])⟩
    · obtain rfl : a = G.n := by omega
      have hs0 : Hid (Sq wr B G.n (fwM L G.n G.bst 0)) := hid (HS.out.congr (fun i j hi hj => by unfold fillD fwM; rw [if_pos (.inl hi)]))
      have HF0 := hid HF.out
      clear HF
      go_wp2
      clear HS c0 HGK
      have lB : B < wr.heap.size := hs0.out.lt
      go_loopg [13] (G.n + 1) (fun gk p wr => ∃ m : Nat, p = .int .i64 m ∧ m ≤ G.n ∧ gk = G.n + 1 - m ∧ Fr No w wr ∧ Sq wr B G.n (fwM L G.n G.bst m))
      case atStart => exact ⟨0, rfl, by omega, rfl, HF0.out, hs0.out⟩
      case round =>
        clear HF0 hs0 lB
        obtain ⟨m, rfl, hm, hgk, hf, hs⟩ := hrel
        have HGK := hid hgk
        have HF := hid hf
        have HS := hid hs
        have c0 := (H.out.no hf).c0
        clear hgk hf hs
        by_cases hlt : m < G.n
        · have hlt2 : (m : Int) < G.n := by omega
          have hm24 : (m : Int) < 24 := by omega
          have hDm := fwM_b (L := L) HBB.out m (by omega)
          obtain ⟨Dm, hDD⟩ : ∃ D, fwM L G.n G.bst m = D := ⟨_, rfl⟩
          have HDD := hid hDD
          rw [hDD] at HS hDm
          have HDM := hid hDm
          clear hDm hDD
          go_wp2
          clear c0
          go_loopg [14] (G.n + 1) (fun gk p wr => ∃ a : Nat, p = .int .i64 a ∧ a ≤ G.n ∧ gk = G.n + 1 - a ∧ Fr No w wr ∧ Sq wr B G.n (fwA L G.n m Dm a))
          case atStart => exact ⟨0, rfl, by omega, rfl, HF.out, HS.out⟩
          case round =>
            clear HF HS
            obtain ⟨a, rfl, ha, hgk2, hf, hs⟩ := hrel
            have HGK2 := hid hgk2
            have HF := hid hf
            have HS := hid hs
            have c0 := (H.out.no hf).c0
            clear hgk2 hf hs
            by_cases hla : a < G.n
            · have hla2 : (a : Int) < G.n := by omega
              have ha24 : (a : Int) < 24 := by omega
              have hDa := fwA_b (L := L) HDM.out hlt a (by omega)
              obtain ⟨Da, hDE⟩ : ∃ D, fwA L G.n m Dm a = D := ⟨_, rfl⟩
              have HDE := hid hDE
              rw [hDE] at HS hDa
              have HDA := hid hDa
              clear hDa hDE
              go_wp2
              clear c0
              go_loopg [15] (G.n + 1) (fun gk p wr => ∃ q : Nat, p = .int .i64 q ∧ q ≤ G.n ∧ gk = G.n + 1 - q ∧ Fr No w wr ∧ Sq wr B G.n (fwB L m a Da q))
              case atStart => exact ⟨0, rfl, by omega, rfl, HF.out, HS.out⟩
              case round =>
                clear HF HS
                obtain ⟨q, rfl, hq, hgk3, hf, hs⟩ := hrel
                have HGK3 := hid hgk3
                have HF := hid hf
                have HS := hid hs
                have c0 := (H.out.no hf).c0
                clear hgk3 hf hs
                by_cases hlq : q < G.n
                · have hlq2 : (q : Int) < G.n := by omega
                  have hq24 : (q : Int) < 24 := by omega
                  have hDq := fwB_b (L := L) HDA.out hlt hla q (by omega)
                  have hstep : fwB L m a Da (q + 1) = fw1 L m a q (fwB L m a Da q) := rfl
                  obtain ⟨Dq, hDF⟩ : ∃ D, fwB L m a Da q = D := ⟨_, rfl⟩
                  rw [hDF] at HS hDq hstep
                  have HST := hid hstep
                  have t1 := HS.out.cell hn hla hlt
                  have t2 := HS.out.cell hn hlt hlq
                  have t3 := HS.out.cell hn hla hlq
                  have t4 := HS.out.frozen (a * 24 + q)
                  have b1 := hDq a m hla hlt
                  have b2 := hDq m q hlt hlq
                  obtain ⟨x1, hx1⟩ : ∃ x, Dq a m = x := ⟨_, rfl⟩
                  obtain ⟨x2, hx2⟩ : ∃ x, Dq m q = x := ⟨_, rfl⟩
                  obtain ⟨x3, hx3⟩ : ∃ x, Dq a q = x := ⟨_, rfl⟩
                  rw [hx1] at t1 b1
                  rw [hx2] at t2 b2
                  rw [hx3] at t3
                  obtain ⟨by_, hby⟩ : ∃ x, tw x1 x2 = x := ⟨_, rfl⟩
                  have hfw : fw1 L m a q Dq = if (L m = true ∧ L a = true ∧ L q = true) ∧ by_ < x3 then upd2 Dq a q by_ else Dq := by unfold fw1; rw [hx1, hx2, hx3, hby]
                  have HFW := hid hfw
                  have htw : ∀ nn : Fam wr, Calls Tryz.prog 28 #[.int .i64 x1, .int .i64 x2] nn.v fun e w' => e = .returned (.int .i64 by_) ∧ Fr No nn.v w' := fun nn => by
                    have := tw_calls b1 b2 nn.v
                    rw [hby] at this
                    exact this
                  have kk1 : ∀ nn : Fam wr, nn.v.cell? ⟨B, a * 24 + m, none⟩ = some (.int .i64 x1) := Fam.cell t1
                  have kk2 : ∀ nn : Fam wr, nn.v.cell? ⟨B, m * 24 + q, none⟩ = some (.int .i64 x2) := Fam.cell t2
                  clear hDq hstep hDF hx1 hx2 hx3 hby hfw b1 b2
                  go_wp2_with fail
                  clear c0
                  refine wp_region_fam (by kernel_rfl) (by kernel_rfl) ?_
                  repeat (go_big_quiet_step (exact Calls.fam (htw _)))
                  refine wpQuiet_nil ?_
                  rintro w5 ⟨⟨w5, hf5⟩, rfl⟩
                  have HS5 := hid (HS.out.fr hf5 (fun h => h))
                  have HF5 := hid (HF.out.trans hf5)
                  have s3 := hf5.cell_some t3 (fun h => h)
                  have s4 := HS5.out.frozen (a * 24 + q)
                  have s5 := HS5.out.lt
                  have fm := HF5.out.cell_some (HCC.out m hlt) (fun h => h)
                  have fa := HF5.out.cell_some (HCC.out a hla) (fun h => h)
                  have fq := HF5.out.cell_some (HCC.out q hlq) (fun h => h)
                  have lm := HL.out m hlt
                  have la := HL.out a hla
                  have lq := HL.out q hlq
                  obtain ⟨ym, hym⟩ : ∃ x, f m = x := ⟨_, rfl⟩
                  obtain ⟨ya, hya⟩ : ∃ x, f a = x := ⟨_, rfl⟩
                  obtain ⟨yq, hyq⟩ : ∃ x, f q = x := ⟨_, rfl⟩
                  rw [hym] at fm lm
                  rw [hya] at fa la
                  rw [hyq] at fq lq
                  have HLM := hid lm
                  have HLA := hid la
                  have HLQ := hid lq
                  clear hf5 kk1 kk2 htw t1 t2 t3 t4 hym hya hyq lm la lq HS HF
                  have skip : ∀ hno : ¬ ((ym < lw ∧ ya < lw ∧ yq < lw) ∧ by_ < x3), Sq w5 B G.n (fwB L m a Da (q + 1)) := fun hno => by
                    rw [HST.out, HFW.out, if_neg (fun hh => hno ⟨⟨by have := HLM.out; rw [hh.1.1] at this; exact of_decide_eq_true this.symm, by have := HLA.out; rw [hh.1.2.1] at this; exact of_decide_eq_true this.symm, by have := HLQ.out; rw [hh.1.2.2] at this; exact of_decide_eq_true this.symm⟩, hh.2⟩)]
                    exact HS5.out
                  have SKIP := hid skip
                  clear skip
                  by_cases h1 : ym < lw
                  · have g1 : decide (ym < lw) = true := by simp; exact h1
                    by_cases h2 : ya < lw
                    · have g2 : decide (ya < lw) = true := by simp; exact h2
                      by_cases h3 : yq < lw
                      · have g3 : decide (yq < lw) = true := by simp; exact h3
                        by_cases h4 : by_ < x3
                        · have g4 : decide (by_ < x3) = true := by simp; exact h4
                          have hset := HS5.out.set hn hla hlq by_
                          have heq : fwB L m a Da (q + 1) = upd2 Dq a q by_ := by
                            rw [HST.out, HFW.out, if_pos ⟨⟨by rw [HLM.out]; exact g1, by rw [HLA.out]; exact g2, by rw [HLQ.out]; exact g3⟩, h4⟩]
                          rw [← heq] at hset
                          have HSET := hid hset
                          clear hset heq
                          go_wp2
                          go_roundg (G.n + 1 - (q + 1))
                          case measure => have := HGK3.out; omega
                          case rel => exact ⟨q + 1, by go_num, by omega, rfl, HF5.out.setCell (p := ⟨B, a * 24 + q, none⟩) (.inr hB10) _, HSET.out⟩
                        · have g4 : decide (by_ < x3) = false := by simp; omega
                          go_wp2
                          go_roundg (G.n + 1 - (q + 1))
                          case measure => have := HGK3.out; omega
                          case rel => exact ⟨q + 1, by go_num, by omega, rfl, HF5.out, SKIP.out (fun h => by omega)⟩
                      · have g3 : decide (yq < lw) = false := by simp; omega
                        go_wp2
                        go_roundg (G.n + 1 - (q + 1))
                        case measure => have := HGK3.out; omega
                        case rel => exact ⟨q + 1, by go_num, by omega, rfl, HF5.out, SKIP.out (fun h => by omega)⟩
                    · have g2 : decide (ya < lw) = false := by simp; omega
                      go_wp2
                      go_roundg (G.n + 1 - (q + 1))
                      case measure => have := HGK3.out; omega
                      case rel => exact ⟨q + 1, by go_num, by omega, rfl, HF5.out, SKIP.out (fun h => by omega)⟩
                  · have g1 : decide (ym < lw) = false := by simp; omega
                    go_wp2
                    go_roundg (G.n + 1 - (q + 1))
                    case measure => have := HGK3.out; omega
                    case rel => exact ⟨q + 1, by go_num, by omega, rfl, HF5.out, SKIP.out (fun h => by omega)⟩
                · obtain rfl : q = G.n := by omega
                  go_wp2
                  go_roundg (G.n + 1 - (a + 1))
                  case measure => have := HGK2.out; omega
                  case rel =>
                    refine ⟨a + 1, by go_num, by omega, rfl, HF.out, ?_⟩
                    show Sq _ B G.n (fwB L m a (fwA L G.n m Dm a) G.n)
                    rw [HDE.out]; exact HS.out
            · obtain rfl : a = G.n := by omega
              go_wp2
              go_roundg (G.n + 1 - (m + 1))
              case measure => have := HGK.out; omega
              case rel =>
                refine ⟨m + 1, by go_num, by omega, rfl, HF.out, ?_⟩
                show Sq _ B G.n (fwA L G.n m (fwM L G.n G.bst m) G.n)
                rw [HDD.out]; exact HS.out
        · obtain rfl : m = G.n := by omega
          have HF0 := hid HF.out
          have HS0 := hid HS.out
          clear HF HS
          obtain ⟨D, hD⟩ : ∃ D, fwM L G.n G.bst G.n = D := ⟨_, rfl⟩
          have hDb := fwM_b (L := L) HBB.out G.n (Nat.le_refl _)
          rw [hD] at HS0 hDb
          have HDB := hid hDb
          have hans : G.btw L u v = lsA (pL L) (viaD G D u v) G.n G.n := by unfold Gr.btw; rw [hD]
          have HANS := hid hans
          clear hans hD hDb
          go_wp2
          clear c0 HGK
          go_loopg [17, 18] (G.n + 1) (fun gk p r wr => ∃ a : Nat, p = .int .i64 (lsA (pL L) (viaD G D u v) G.n a) ∧ r = .int .i64 a ∧ a ≤ G.n ∧ gk = G.n + 1 - a ∧ Fr No w wr ∧ Sq wr B G.n D)
          case atStart => exact ⟨0, rfl, rfl, by omega, rfl, HF0.out, HS0.out⟩
          case round =>
            clear HF0 HS0
            obtain ⟨a, rfl, rfl, ha, hgk, hf, hs⟩ := hrel
            have HGK := hid hgk
            have HF := hid hf
            have HS := hid hs
            have c0 := (H.out.no hf).c0
            clear hgk hf hs
            by_cases hla : a < G.n
            · have hla2 : (a : Int) < G.n := by omega
              have ha24 : (a : Int) < 24 := by omega
              obtain ⟨acc, hacc⟩ : ∃ x, lsA (pL L) (viaD G D u v) G.n a = x := ⟨_, rfl⟩
              rw [hacc]
              have HACC := hid hacc
              clear hacc
              go_wp2
              clear c0
              go_loopg [17, 19] (G.n + 1) (fun gk p r wr => ∃ q : Nat, p = .int .i64 (lsB (pL L) (viaD G D u v) a acc q) ∧ r = .int .i64 q ∧ q ≤ G.n ∧ gk = G.n + 1 - q ∧ Fr No w wr ∧ Sq wr B G.n D)
              case atStart => exact ⟨0, rfl, rfl, by omega, rfl, HF.out, HS.out⟩
              case round =>
                clear HF HS
                obtain ⟨q, rfl, rfl, hq, hgk3, hf, hs⟩ := hrel
                have HGK3 := hid hgk3
                have HF := hid hf
                have HS := hid hs
                have c0 := (H.out.no hf).c0
                clear hgk3 hf hs
                by_cases hlq : q < G.n
                · have hlq2 : (q : Int) < G.n := by omega
                  have hq24 : (q : Int) < 24 := by omega
                  have fa := HF.out.cell_some (HCC.out a hla) (fun h => h)
                  have fq := HF.out.cell_some (HCC.out q hlq) (fun h => h)
                  have la := HL.out a hla
                  have lq := HL.out q hlq
                  obtain ⟨ya, hya⟩ : ∃ x, f a = x := ⟨_, rfl⟩
                  obtain ⟨yq, hyq⟩ : ∃ x, f q = x := ⟨_, rfl⟩
                  rw [hya] at fa la
                  rw [hyq] at fq lq
                  have hp : pL L a q = (decide (ya < lw) && decide (yq < lw)) := by unfold pL; rw [la, lq]
                  have hst : lsB (pL L) (viaD G D u v) a acc (q + 1) = if pL L a q = true ∧ viaD G D u v a q < lsB (pL L) (viaD G D u v) a acc q then viaD G D u v a q else lsB (pL L) (viaD G D u v) a acc q := rfl
                  rw [hp] at hst
                  obtain ⟨ac, hac⟩ : ∃ x, lsB (pL L) (viaD G D u v) a acc q = x := ⟨_, rfl⟩
                  rw [hac] at hst ⊢
                  obtain ⟨vv, hvv⟩ : ∃ x, viaD G D u v a q = x := ⟨_, rfl⟩
                  rw [hvv] at hst
                  have HST := hid hst
                  have HVV := hid hvv
                  clear la lq hya hyq hp hst hac hvv
                  by_cases h1 : ya < lw
                  · have g1 : decide (lw ≤ ya) = false := by simp; omega
                    by_cases h2 : yq < lw
                    · have g2 : decide (lw ≤ yq) = false := by simp; omega
                      have t3 := HS.out.cell hn hla hlq
                      have b3 := HDB.out a q hla hlq
                      obtain ⟨⟨f1, i1⟩, hf1⟩ : ∃ y, G.best (u : Nat) (a : Nat) = y := ⟨_, rfl⟩
                      obtain ⟨⟨f2, i2⟩, hf2⟩ : ∃ y, G.best (q : Nat) (v : Nat) = y := ⟨_, rfl⟩
                      have hb1 := G.bst_b HW.out u a
                      have hb2 := G.bst_b HW.out q v
                      have e1 : G.bst u a = f1 := by unfold Gr.bst; rw [hf1]
                      have e2 : G.bst q v = f2 := by unfold Gr.bst; rw [hf2]
                      have hvia : vv = tw (tw f1 (if a = q then 0 else D a q)) f2 := by rw [← HVV.out]; unfold viaD midD; rw [e1, e2]
                      rw [e1] at hb1
                      rw [e2] at hb2
                      have HVIA := hid hvia
                      have HB1 := hid hb1
                      have HB2 := hid hb2
                      have HB3 := hid b3
                      have hc1 := rgbest_calls (H.out.no HF.out) (u : Nat) (a : Nat)
                      rw [hf1] at hc1
                      have HC1 := hid hc1
                      have hc2 : ∀ w', Fr No wr w' → Calls Tryz.prog 46 #[.pointer (some ⟨b, 0, none⟩), .int .i64 (q : Nat), .int .i64 (v : Nat)] w' fun e w'' => e = .returned (.tuple #[.int .i64 f2, .int .i64 i2]) ∧ Fr No w' w'' := fun w' hw' => by
                        have := rgbest_calls (H.out.no (HF.out.trans hw')) (q : Nat) (v : Nat)
                        rw [hf2] at this
                        exact this
                      have HC2 := hid hc2
                      obtain ⟨x3, hx3⟩ : ∃ x, D a q = x := ⟨_, rfl⟩
                      rw [hx3] at t3 HVIA HB3
                      clear b3 hf1 hf2 hb1 hb2 e1 e2 hvia hc1 hc2 hx3
                      go_wp2_with fail
                      clear c0
                      refine HC1.out.mono ?_
                      rintro e w5 ⟨rfl, hf5⟩
                      have s3 := hf5.cell_some t3 (fun h => h)
                      have HF5 := hid hf5
                      have HS5 := hid (HS.out.fr hf5 (fun h => h))
                      clear hf5 t3 fa fq HC1 HS
                      go_wp2_with fail
                      refine (HC2.out w5 HF5.out).mono ?_
                      rintro e w6 ⟨rfl, hf6⟩
                      have t3 := hf6.cell_some s3 (fun h => h)
                      have HF6 := hid (HF.out.trans (HF5.out.trans hf6))
                      have HS6 := hid (HS5.out.fr hf6 (fun h => h))
                      clear hf6 s3 HC2 HF5 HS5 HF
                      obtain ⟨md, hmd⟩ : ∃ x, (if a = q then (0 : Int) else x3) = x := ⟨_, rfl⟩
                      have hmdb : Bd md := by rw [← hmd]; split; exact ⟨by omega, by omega⟩; exact HB3.out
                      have HVIA2 : Hid (vv = tw (tw f1 md) f2) := hid (by rw [HVIA.out, hmd])
                      have HMDB := hid hmdb
                      have hin : ∀ wz, Calls Tryz.prog 28 #[.int .i64 f1, .int .i64 md] wz fun e w' => e = .returned (.int .i64 (tw f1 md)) ∧ Fr No wz w' := fun wz => tw_calls HB1.out HMDB.out wz
                      have hout : ∀ wz, Calls Tryz.prog 28 #[.int .i64 (tw f1 md), .int .i64 f2] wz fun e w' => e = .returned (.int .i64 vv) ∧ Fr No wz w' := fun wz => by
                        have := tw_calls (tw_b HB1.out HMDB.out) HB2.out wz
                        rw [← HVIA2.out] at this
                        exact this
                      have HIN2 := hid hin
                      have HOUT2 := hid hout
                      clear hmdb hin hout
                      by_cases haq : a = q
                      · have hmd0 : md = 0 := by rw [← hmd, if_pos haq]
                        subst hmd0
                        clear hmd
                        subst haq
                        go_wp2_with fail
                        refine (HIN2.out _).mono ?_
                        rintro e w7 ⟨rfl, hf7⟩
                        have HF7 := hid (HF6.out.trans hf7)
                        have HS7 := hid (HS6.out.fr hf7 (fun h => h))
                        clear hf7 t3
                        go_wp2_with fail
                        refine (HOUT2.out _).mono ?_
                        rintro e w8 ⟨rfl, hf8⟩
                        have HF8 := hid (HF7.out.trans hf8)
                        have HS8 := hid (HS7.out.fr hf8 (fun h => h))
                        clear hf8
                        by_cases h6 : vv < ac
                        · have g6 : decide (vv < ac) = true := by simp; exact h6
                          go_wp2
                          go_roundg (G.n + 1 - (a + 1))
                          case measure => have := HGK3.out; omega
                          case rel => exact ⟨a + 1, by rw [HST.out, if_pos ⟨by simp; omega, by omega⟩], by go_num, by omega, rfl, HF8.out, HS8.out⟩
                        · have g6 : decide (vv < ac) = false := by simp; omega
                          go_wp2
                          go_roundg (G.n + 1 - (a + 1))
                          case measure => have := HGK3.out; omega
                          case rel => exact ⟨a + 1, by rw [HST.out, if_neg (fun h => by omega)], by go_num, by omega, rfl, HF8.out, HS8.out⟩
                      · have hmd0 : x3 = md := by rw [← hmd, if_neg haq]
                        subst hmd0
                        have g5 : decide ((a : Int) = (q : Int)) = false := by simp; omega
                        have g5' : ((a : Int) == (q : Int)) = false := by simp; omega
                        clear hmd
                        go_wp2_with fail
                        refine (HIN2.out _).mono ?_
                        rintro e w7 ⟨rfl, hf7⟩
                        have HF7 := hid (HF6.out.trans hf7)
                        have HS7 := hid (HS6.out.fr hf7 (fun h => h))
                        clear hf7 t3
                        go_wp2_with fail
                        refine (HOUT2.out _).mono ?_
                        rintro e w8 ⟨rfl, hf8⟩
                        have HF8 := hid (HF7.out.trans hf8)
                        have HS8 := hid (HS7.out.fr hf8 (fun h => h))
                        clear hf8
                        by_cases h6 : vv < ac
                        · have g6 : decide (vv < ac) = true := by simp; exact h6
                          go_wp2
                          go_roundg (G.n + 1 - (q + 1))
                          case measure => have := HGK3.out; omega
                          case rel => exact ⟨q + 1, by rw [HST.out, if_pos ⟨by simp; omega, by omega⟩], by go_num, by omega, rfl, HF8.out, HS8.out⟩
                        · have g6 : decide (vv < ac) = false := by simp; omega
                          go_wp2
                          go_roundg (G.n + 1 - (q + 1))
                          case measure => have := HGK3.out; omega
                          case rel => exact ⟨q + 1, by rw [HST.out, if_neg (fun h => by omega)], by go_num, by omega, rfl, HF8.out, HS8.out⟩
                    · have g2 : decide (lw ≤ yq) = true := by simp; omega
                      go_wp2
                      go_roundg (G.n + 1 - (q + 1))
                      case measure => have := HGK3.out; omega
                      case rel => exact ⟨q + 1, by rw [HST.out, if_neg (fun h => by have := h.1; simp at this; omega)], by go_num, by omega, rfl, HF.out, HS.out⟩
                  · have g1 : decide (lw ≤ ya) = true := by simp; omega
                    go_wp2
                    go_roundg (G.n + 1 - (q + 1))
                    case measure => have := HGK3.out; omega
                    case rel => exact ⟨q + 1, by rw [HST.out, if_neg (fun h => by have := h.1; simp at this; omega)], by go_num, by omega, rfl, HF.out, HS.out⟩
                · obtain rfl : q = G.n := by omega
                  go_wp2
                  go_roundg (G.n + 1 - (a + 1))
                  case measure => have := HGK.out; omega
                  case rel =>
                    refine ⟨a + 1, ?_, by go_num, by omega, rfl, HF.out, HS.out⟩
                    show Value.int .i64 _ = Value.int .i64 (lsB (pL L) (viaD G D u v) a (lsA (pL L) (viaD G D u v) G.n a) G.n)
                    rw [HACC.out]
            · obtain rfl : a = G.n := by omega
              go_wp2
              go_ret
              exact ⟨by rw [HANS.out]; rfl, HF.out⟩

end Go.Proofs.YthnmomiglgomfaaGreatDoor
