/- The document's graph in memory; its functions, walked. -/
import Derived.BigRegion
import Derived.Test.YtoepbhacpidcbaaGreatDoorQBase
import Derived.Test.YtoepbhacpidcbaaGreatDoorQIdx
import Derived.Test.YtoepbhacpidcbaaGreatDoorQPerm
import Derived.Test.YtoepbhacpidcbaaGreatDoorQIdxB
import Derived.Test.YtoepbhacpidcbaaGreatDoorQRef
import Derived.Test.YtoepbhacpidcbaaGreatDoorQUnref
import Derived.Test.YtoepbhacpidcbaaGreatDoorQItr
import Derived.Test.YtoepbhacpidcbaaGreatDoorQUnE
import Derived.Test.YtoepbhacpidcbaaGreatDoorQDst
import Derived.Test.YtoepbhacpidcbaaGreatDoorQLnk
import Derived.Test.YtoepbhacpidcbaaGreatDoorQMid
import Derived.Test.YtoepbhacpidcbaaGreatDoorQBig
import Derived.Test.YtoepbhacpidcbaaGreatDoorQCp2
import Derived.Test.YtoepbhacpidcbaaGreatDoorQGOps

set_option linter.unusedVariables false
set_option linter.unusedSimpArgs false
namespace Go.Proofs.YtoepbhacpidcbaaGreatDoor
open Go.RowKit Go.Deep

def Gr.rcell (G : Gr) (i : Nat) : Value :=
  if i = 0 then .int .i64 (G.n : Nat) else if i = 1 then .int .i64 (G.most : Nat) else if i < 66 then .bool (G.tk (i - 2))
  else G.slot ((i - 66) / 4) ((i - 66) % 4)
/-- The document's graph lies at b. -/
def RGM (w : World) (b : Nat) (G : Gr) : Prop := Blk w b 322 52 G.rcell

theorem RGM.fr {w w' : World} {b : Nat} {G : Gr} (h : RGM w b G) {F : Nat → Prop} (hf : Fr F w w') (hF : ¬ F b) : RGM w' b G := Blk.fr h hf hF
theorem RGM.no {w w' : World} {b : Nat} {G : Gr} (h : RGM w b G) (hf : Fr No w w') : RGM w' b G := h.fr hf (fun h => h)
theorem RGM.c0 {w : World} {b : Nat} {G : Gr} (h : RGM w b G) : w.cell? ⟨b, 0, none⟩ = some (.int .i64 (G.n : Nat)) := Blk.cell h (i := 0) (by omega)
theorem RGM.c1 {w : World} {b : Nat} {G : Gr} (h : RGM w b G) : w.cell? ⟨b, 1, none⟩ = some (.int .i64 (G.most : Nat)) := Blk.cell h (i := 1) (by omega)
theorem RGM.tkc {w : World} {b : Nat} {G : Gr} (h : RGM w b G) {k : Nat} (hk : k < 64) : w.cell? ⟨b, 2 + k, none⟩ = some (.bool (G.tk k)) := by
  rw [Blk.cell h (by omega), Gr.rcell, if_neg (by omega), if_neg (by omega), if_pos (by omega), show 2 + k - 2 = k by omega]
theorem RGM.arc {w : World} {b : Nat} {G : Gr} (h : RGM w b G) {k : Nat} (hk : k < 64) (c : Nat) (hc : c < 4) : w.cell? ⟨b, 66 + k * 4 + c, none⟩ = some (G.slot k c) := by
  rw [Blk.cell h (by omega), Gr.rcell, if_neg (by omega), if_neg (by omega), if_neg (by omega), show (66 + k * 4 + c - 66) / 4 = k by omega, show (66 + k * 4 + c - 66) % 4 = c by omega]
theorem selA_succ (p : Nat → Bool) (k : Nat) : selA p (k + 1) = if p k = true then selA p k ++ [(k : Int)] else selA p k := by
  unfold selA
  rw [List.range_succ, List.filter_append, List.map_append]
  by_cases e : p k = true
  · rw [if_pos e, List.filter_cons_of_pos e]; rfl
  · rw [if_neg e, List.filter_cons_of_neg e]; simp
theorem selA_len (p : Nat → Bool) (k : Nat) : (selA p k).length ≤ k := by
  unfold selA
  rw [List.length_map]
  have := List.length_filter_le p (List.range k)
  simpa using this

set_option maxRecDepth 100000 in
set_option maxHeartbeats 2000000 in
theorem rgids2_calls {w : World} {b : Nat} {G : Gr} (h : RGM w b G) :
    Calls Tryz.prog 106 #[.pointer (some ⟨b, 0, none⟩)] w fun e w' => ∃ A c, e = .returned (.slice A (sel G.tk).length c) ∧ Fr No w w' ∧ SlL w' (.slice A (sel G.tk).length c) (sel G.tk) ∧ ∀ a : Addr, A = some a → w.heap.size ≤ a.block := by
  have H := hid h
  clear h
  go_enter Tryz.func106, Tryz.ntmps106
  go_wp2
  go_loopg [3, 4] 65 (fun g p q wr => ∃ (r : Nat) (l : List Int) (A : Option Addr) (c : Nat), q = .int .i64 r ∧ r ≤ 64 ∧ p = .slice A l.length c ∧ wr.ownsRow w.heap.size 3 1 (.slice A l.length c) l.length (l.map (Value.int .i64)) ∧ (l = [] → A = none ∧ c = 0) ∧
      l = selA G.tk r ∧ g = 65 - r ∧ Fr No w wr)
  case atStart => exact ⟨0, [], none, 0, rfl, by omega, rfl, World.ownsRow_nil _ _ _ _, fun _ => ⟨rfl, rfl⟩, rfl, rfl, Fr.refl _ _⟩
  case round =>
    obtain ⟨r, l, A, c, rfl, hr, rfl, hown, hnil, hl, hg, hf⟩ := hrel
    have HO := hid hown
    have HNIL := hid hnil
    have HL := hid hl
    have HG := hid hg
    have HF := hid hf
    have hlen : l.length ≤ 64 := by rw [hl]; have := selA_len G.tk r; omega
    have hsz := hf.size
    clear hown hnil hl hg
    by_cases hr64 : r < 64
    · have hr2 : (r : Int) < 64 := by omega
      have k0 := (H.out.no hf).tkc hr64
      have hst := selA_succ G.tk r
      clear hf
      cases htk : G.tk r with
      | true =>
        rw [htk] at k0 hst
        rw [if_pos rfl] at hst
        have HST := hid hst
        clear hst htk
        go_wp2_with (at_builtin; refine wpList_push (.tmp 15) (.tmp 17) (.slice A l.length c) l wr.heap.size 1 (r : Nat) ?_ ?_ ?_ ?_ w.heap.size ?_ ?_ ?_ ?_ ?_; rfl; rfl; rfl; rfl; exact own_fr HO.out ((Fr.refl No _).alloc _) (fun _ _ h => h); (simp; omega); exact cell_of (heap_new wr _) 0; omega; intro g' cap' w6 hown4 hgrow4 hat4 hlt4; have HO6 := hid hown4; have HG6 := hid hgrow4; clear hown4 hgrow4 hat4)
        all_goals go_roundg (65 - (r + 1))
        all_goals first
          | (have := HG.out; omega)
          | exact ⟨r + 1, l ++ [(r : Int)], some ⟨g', 0, none⟩, cap', by go_num, by omega, by simp, HO6.out, fun e => by simp at e, by rw [HST.out, HL.out], rfl, (HF.out.alloc _).grown HG6.out (fun k e => .inr (own_block HO.out k e).1)⟩
      | false =>
        rw [htk] at k0 hst
        rw [if_neg (by simp)] at hst
        have HST := hid hst
        clear hst htk
        go_wp2
        all_goals go_roundg (65 - (r + 1))
        all_goals first
          | (have := HG.out; omega)
          | exact ⟨r + 1, l, A, c, by go_num, by omega, rfl, HO.out, HNIL.out, by rw [HST.out, HL.out], rfl, HF.out⟩
    · have hr2 : ¬ (r : Int) < 64 := by omega
      have e64 : r = 64 := by omega
      subst e64
      clear hf
      go_wp2
      go_ret
      rw [show sel G.tk = l from HL.out.symm]
      exact ⟨A, c, rfl, HF.out, own_slL HO.out HNIL.out, fun a ha => (own_block HO.out a.block (by rw [ha]; rfl)).1⟩
theorem rgids_calls {w : World} {b : Nat} {G : Gr} (h : RGM w b G) :
    Calls Tryz.prog 106 #[.pointer (some ⟨b, 0, none⟩)] w fun e w' => ∃ A c, e = .returned (.slice A (sel G.tk).length c) ∧ Fr No w w' ∧ SlL w' (.slice A (sel G.tk).length c) (sel G.tk) :=
  (rgids2_calls h).mono fun e w' ⟨A, c, h1, h2, h3, _⟩ => ⟨A, c, h1, h2, h3⟩

set_option maxRecDepth 100000 in
set_option maxHeartbeats 1000000 in
theorem rglen_calls {w : World} {b : Nat} {G : Gr} (h : RGM w b G) :
    Calls Tryz.prog 182 #[.pointer (some ⟨b, 0, none⟩)] w fun e w' => e = .returned (.int .i64 (G.cnt : Nat)) ∧ Fr No w w' := by
  rw [show G.cnt = (sel G.tk).length from rfl]
  have hl := sel_len G.tk
  go_enter Tryz.func182, Tryz.ntmps182
  go_wp2_with fail
  refine (rgids_calls h).mono ?_
  rintro e w1 ⟨A, c, rfl, hf, hs⟩
  clear hs
  go_wp2
  go_ret
  exact ⟨rfl, hf⟩

set_option maxRecDepth 100000 in
set_option maxHeartbeats 1000000 in
theorem rgvertex_calls {w : World} {b : Nat} {G : Gr} (h : RGM w b G) (v : Int) :
    Calls Tryz.prog 20 #[.pointer (some ⟨b, 0, none⟩), .int .i64 v] w fun e w' => e = .returned (.bool (decide (0 ≤ v ∧ v < G.n))) ∧ w = w' := by
  have c0 := h.c0
  clear h
  by_cases h0 : 0 ≤ v
  · have h0a : decide (0 ≤ v) = true := by simpa using h0
    by_cases h1 : v < G.n
    · have h2 : decide (0 ≤ v ∧ v < G.n) = true := by simp; omega
      rw [h2]
      go_enter Tryz.func20, Tryz.ntmps20
      go_wp2
      go_ret
      exact ⟨ret_bool (by simp <;> omega), rfl⟩
    · have h2 : decide (0 ≤ v ∧ v < G.n) = false := by simp; omega
      rw [h2]
      go_enter Tryz.func20, Tryz.ntmps20
      go_wp2
      go_ret
      exact ⟨ret_bool (by simp <;> omega), rfl⟩
  · have h2 : decide (0 ≤ v ∧ v < G.n) = false := by simp; omega
    have h0a : decide (0 ≤ v) = false := by simpa using h0
    rw [h2]
    go_enter Tryz.func20, Tryz.ntmps20
    go_wp2
    go_ret
    exact ⟨rfl, rfl⟩

set_option maxRecDepth 100000 in
set_option maxHeartbeats 1000000 in
theorem rgweight_calls (i : Int) (w : World) : Calls Tryz.prog 181 #[.int .i64 i] w fun e w' => e = .returned (.bool (decide (1 ≤ i ∧ i ≤ 4611686018427387904))) ∧ w = w' := by
  by_cases h0 : 1 ≤ i
  · have h0a : decide (1 ≤ i) = true := by simpa using h0
    by_cases h1 : i ≤ 4611686018427387904
    · have h2 : decide (1 ≤ i ∧ i ≤ 4611686018427387904) = true := by simp; omega
      rw [h2]
      go_enter Tryz.func181, Tryz.ntmps181
      go_wp2
      go_ret
      exact ⟨ret_bool (by simp <;> omega), rfl⟩
    · have h2 : decide (1 ≤ i ∧ i ≤ 4611686018427387904) = false := by simp; omega
      rw [h2]
      go_enter Tryz.func181, Tryz.ntmps181
      go_wp2
      go_ret
      exact ⟨ret_bool (by simp <;> omega), rfl⟩
  · have h2 : decide (1 ≤ i ∧ i ≤ 4611686018427387904) = false := by simp; omega
    have h0a : decide (1 ≤ i) = false := by simpa using h0
    rw [h2]
    go_enter Tryz.func181, Tryz.ntmps181
    go_wp2
    go_ret
    exact ⟨rfl, rfl⟩

set_option maxRecDepth 100000 in
set_option maxHeartbeats 1000000 in
theorem rgcode_calls {w : World} {b : Nat} {G : Gr} (h : RGM w b G) (id : Int) :
    Calls Tryz.prog 93 #[.pointer (some ⟨b, 0, none⟩), .int .i64 id] w fun e w' => e = .returned (.int .i64 (G.code id)) ∧ w = w' := by
  by_cases h0 : id < 0
  · have h0a : decide (id < 0) = true := by simpa using h0
    have e : G.code id = 1 := by unfold Gr.code; rw [if_neg (by omega)]
    rw [e]
    go_enter Tryz.func93, Tryz.ntmps93
    go_wp2
    go_ret
    exact ⟨rfl, rfl⟩
  · have h0a : decide (id < 0) = false := by simp; omega
    by_cases h1 : id < 64
    · obtain ⟨k, rfl⟩ := Int.eq_ofNat_of_zero_le (show 0 ≤ id by omega)
      have hk : k < 64 := by omega
      have k0 := h.tkc hk
      have h1a : ¬ (63 : Int) < (k : Nat) := by omega
      have e : G.code k = if G.tk k then 0 else 3 := by unfold Gr.code; rw [if_pos (by omega)]; rfl
      rw [e]
      clear h e
      cases htk : G.tk k with
      | true =>
        rw [htk] at k0
        go_enter Tryz.func93, Tryz.ntmps93
        go_wp2
        go_ret
        exact ⟨rfl, rfl⟩
      | false =>
        rw [htk] at k0
        go_enter Tryz.func93, Tryz.ntmps93
        go_wp2
        go_ret
        exact ⟨rfl, rfl⟩
    · have h1a : (63 : Int) < id := by omega
      have e : G.code id = 1 := by unfold Gr.code; rw [if_neg (by omega)]
      rw [e]
      go_enter Tryz.func93, Tryz.ntmps93
      go_wp2
      go_ret
      exact ⟨rfl, rfl⟩

def Gr.set (G : Gr) (k : Nat) (a : Arc4) (v : Bool) : Gr := ⟨G.n, G.most, fun i => if i = k then a else G.arc i, fun i => if i = k then v else G.tk i⟩
theorem Gr.rcell_tk (G : Gr) (k : Nat) (hk : k < 64) : G.rcell (2 + k) = .bool (G.tk k) := by
  unfold Gr.rcell
  rw [if_neg (by omega), if_neg (by omega), if_pos (by omega), show 2 + k - 2 = k by omega]
theorem Gr.rcell_arc (G : Gr) (k c : Nat) (hc : c < 4) : G.rcell (66 + k * 4 + c) = G.slot k c := by
  unfold Gr.rcell
  rw [if_neg (by omega), if_neg (by omega), if_neg (by omega), show (66 + k * 4 + c - 66) / 4 = k by omega, show (66 + k * 4 + c - 66) % 4 = c by omega]
theorem Gr.slot_set (G : Gr) (k j d : Nat) (a : Arc4) (v : Bool) (h : j ≠ k) : (G.set k a v).slot j d = G.slot j d := by
  unfold Gr.slot Gr.set
  simp only [h, if_false]
theorem upd_ne {V : Nat → Value} {p i : Nat} {v : Value} (h : i ≠ p) : upd V p v i = V i := if_neg h
theorem upd_eq {V : Nat → Value} {p i : Nat} {v : Value} (h : i = p) : upd V p v i = v := if_pos h
theorem Gr.rset_cell (G : Gr) (k : Nat) (hk : k < 64) (a : Arc4) (v : Bool) (i : Nat) :
    upd (upd (upd (upd (upd G.rcell (2 + k) (.bool v)) (66 + k * 4) (.int .i64 a.t)) (66 + k * 4 + 1) (.int .i64 a.h)) (66 + k * 4 + 2) (.int .i64 a.w)) (66 + k * 4 + 3) (.bool a.c) i = (G.set k a v).rcell i := by
  by_cases h66 : i < 66
  · rw [upd_ne (show i ≠ 66 + k * 4 + 3 by omega), upd_ne (show i ≠ 66 + k * 4 + 2 by omega), upd_ne (show i ≠ 66 + k * 4 + 1 by omega), upd_ne (show i ≠ 66 + k * 4 by omega)]
    by_cases h0 : i = 2 + k
    · rw [upd_eq h0, h0, Gr.rcell_tk _ k hk]
      exact congrArg Value.bool (if_pos rfl).symm
    · rw [upd_ne h0]
      by_cases h1 : i < 2
      · unfold Gr.rcell
        by_cases h2 : i = 0
        · rw [if_pos h2, if_pos h2]; rfl
        · rw [if_neg h2, if_neg h2, if_pos (show i = 1 by omega), if_pos (show i = 1 by omega)]; rfl
      · obtain ⟨j, rfl⟩ : ∃ j, i = 2 + j := ⟨i - 2, by omega⟩
        rw [Gr.rcell_tk _ j (by omega), Gr.rcell_tk _ j (by omega)]
        exact congrArg Value.bool (if_neg (show ¬ j = k by omega)).symm
  · obtain ⟨j, d, hd, rfl⟩ : ∃ j d, d < 4 ∧ i = 66 + j * 4 + d := ⟨(i - 66) / 4, (i - 66) % 4, Nat.mod_lt _ (by omega), by omega⟩
    rw [Gr.rcell_arc _ j d hd]
    by_cases e : j = k
    · subst e
      match d, hd with
      | 0, _ =>
        rw [upd_ne (by omega), upd_ne (by omega), upd_ne (by omega), upd_eq (by omega)]
        exact congrArg (fun z : Arc4 => Value.int .i64 z.t) (if_pos rfl).symm
      | 1, _ =>
        rw [upd_ne (by omega), upd_ne (by omega), upd_eq (by omega)]
        exact congrArg (fun z : Arc4 => Value.int .i64 z.h) (if_pos rfl).symm
      | 2, _ =>
        rw [upd_ne (by omega), upd_eq (by omega)]
        exact congrArg (fun z : Arc4 => Value.int .i64 z.w) (if_pos rfl).symm
      | 3, _ =>
        rw [upd_eq (by omega)]
        exact congrArg (fun z : Arc4 => Value.bool z.c) (if_pos rfl).symm
    · rw [Gr.slot_set _ _ _ _ _ _ e, upd_ne (by omega), upd_ne (by omega), upd_ne (by omega), upd_ne (by omega), upd_ne (by omega), Gr.rcell_arc _ j d hd]
theorem Gr.rone_cell (G : Gr) (k : Nat) (hk : k < 64) (c : Nat) (hc : c < 4) (v : Value) (G' : Gr) (h0 : G'.n = G.n) (h1 : G'.most = G.most) (h2 : G'.tk = G.tk) (h3 : ∀ j d, d < 4 → G'.slot j d = if j = k ∧ d = c then v else G.slot j d) (i : Nat) :
    upd G.rcell (66 + k * 4 + c) v i = G'.rcell i := by
  unfold upd Gr.rcell
  by_cases h66 : i < 66
  · rw [if_neg (by omega), h0, h1, h2, if_pos h66, if_pos h66]
  · rw [if_neg (show ¬ i = 0 by omega), if_neg (show ¬ i = 0 by omega), if_neg (show ¬ i = 1 by omega), if_neg (show ¬ i = 1 by omega), if_neg h66, if_neg h66, h3 _ _ (Nat.mod_lt _ (by omega))]
    by_cases e : i = 66 + k * 4 + c
    · rw [if_pos e, if_pos (by omega)]
    · rw [if_neg e, if_neg (by omega)]
theorem Gr.rshut_cell (G : Gr) (k : Nat) (hk : k < 64) (c : Bool) (i : Nat) : upd G.rcell (66 + k * 4 + 3) (.bool c) i = (G.shut k c).rcell i := by
  refine G.rone_cell k hk 3 (by omega) (.bool c) (G.shut k c) rfl rfl rfl (fun j d hd => ?_) i
  unfold Gr.slot Gr.shut
  by_cases e : j = k
  · subst e
    match d, hd with
    | 0, _ => simp
    | 1, _ => simp
    | 2, _ => simp
    | 3, _ => simp
  · simp [e]
theorem Gr.rwei_cell (G : Gr) (k : Nat) (hk : k < 64) (c : Int) (i : Nat) : upd G.rcell (66 + k * 4 + 2) (.int .i64 c) i = (G.wei k c).rcell i := by
  refine G.rone_cell k hk 2 (by omega) (.int .i64 c) (G.wei k c) rfl rfl rfl (fun j d hd => ?_) i
  unfold Gr.slot Gr.wei
  by_cases e : j = k
  · subst e
    match d, hd with
    | 0, _ => simp
    | 1, _ => simp
    | 2, _ => simp
    | 3, _ => simp
  · simp [e]

set_option maxRecDepth 100000 in
set_option maxHeartbeats 1000000 in
theorem rgdelete_calls {w : World} {b : Nat} {G : Gr} (h : RGM w b G) (id : Int) :
    Calls Tryz.prog 126 #[.pointer (some ⟨b, 0, none⟩), .int .i64 id] w fun e w' => e = .returned (.int .i64 (G.code id)) ∧ RGM w' b (G.rm id) ∧ Fr (One b) w w' := by
  have HC := hid (rgcode_calls h id)
  have H := hid h
  rcases G.code_cases id with ⟨e, h1⟩ | ⟨k, rfl, hk, htk, e⟩ | ⟨k, rfl, hk, htk, e⟩
  · have er : G.rm id = G := by unfold Gr.rm; rw [e]; rfl
    rw [e] at HC ⊢
    rw [er]
    clear h er e
    go_enter Tryz.func126, Tryz.ntmps126
    go_wp2_with fail
    refine HC.out.mono ?_
    rintro e w1 ⟨rfl, rfl⟩
    go_wp2
    go_ret
    exact ⟨rfl, H.out, Fr.refl _ _⟩
  · have er : G.rm k = G := by unfold Gr.rm; rw [e]; rfl
    rw [e] at HC ⊢
    rw [er]
    clear h er e
    go_enter Tryz.func126, Tryz.ntmps126
    go_wp2_with fail
    refine HC.out.mono ?_
    rintro e w1 ⟨rfl, rfl⟩
    go_wp2
    go_ret
    exact ⟨rfl, H.out, Fr.refl _ _⟩
  · have er : G.rm k = G.set k ⟨0, 0, 0, false⟩ false := by unfold Gr.rm; rw [e]; rfl
    rw [e] at HC ⊢
    rw [er]
    have z4 := h.tkc hk
    have z0 := h.arc hk 0 (by omega)
    have z1 := h.arc hk 1 (by omega)
    have z2 := h.arc hk 2 (by omega)
    have z3 := h.arc hk 3 (by omega)
    have zf := fun i => Blk.frozen h i
    have hk2 : (k : Int) < 64 := by omega
    clear h er e
    go_enter Tryz.func126, Tryz.ntmps126
    go_wp2_with fail
    refine HC.out.mono ?_
    rintro e w1 ⟨rfl, rfl⟩
    rw [Nat.add_zero] at z0
    go_wp2
    go_ret
    exact ⟨rfl, Blk.congr (((((Blk.setCell H.out (2 + k) (.bool false)).setCell (66 + k * 4) (.int .i64 0)).setCell (66 + k * 4 + 1) (.int .i64 0)).setCell (66 + k * 4 + 2) (.int .i64 0)).setCell (66 + k * 4 + 3) (.bool false)) (fun i _ => G.rset_cell k hk ⟨0, 0, 0, false⟩ false i),
      (((((Fr.refl _ _).set1 _ _).set1 _ _).set1 _ _).set1 _ _).set1 _ _⟩

set_option maxRecDepth 100000 in
set_option maxHeartbeats 1000000 in
theorem rgturn_calls {w : World} {b : Nat} {G : Gr} (h : RGM w b G) (id : Int) (c : Bool) :
    Calls Tryz.prog 127 #[.pointer (some ⟨b, 0, none⟩), .int .i64 id, .bool c] w fun e w' => e = .returned (.int .i64 (G.tcode id c)) ∧ RGM w' b (G.tn id c) ∧ Fr (One b) w w' := by
  have HC := hid (rgcode_calls h id)
  have H := hid h
  rcases G.code_cases id with ⟨e, h1⟩ | ⟨k, rfl, hk, htk, e⟩ | ⟨k, rfl, hk, htk, e⟩
  · have ec : G.tcode id c = 1 := by unfold Gr.tcode; rw [e]; rfl
    have er : G.tn id c = G := by unfold Gr.tn; rw [ec]; rfl
    rw [e] at HC
    rw [er, ec]
    clear h er ec e
    go_enter Tryz.func127, Tryz.ntmps127
    go_wp2_with fail
    refine HC.out.mono ?_
    rintro e w1 ⟨rfl, rfl⟩
    go_wp2
    go_ret
    exact ⟨rfl, H.out, Fr.refl _ _⟩
  · have ec : G.tcode k c = 3 := by unfold Gr.tcode; rw [e]; rfl
    have er : G.tn k c = G := by unfold Gr.tn; rw [ec]; rfl
    rw [e] at HC
    rw [er, ec]
    clear h er ec e
    go_enter Tryz.func127, Tryz.ntmps127
    go_wp2_with fail
    refine HC.out.mono ?_
    rintro e w1 ⟨rfl, rfl⟩
    go_wp2
    go_ret
    exact ⟨rfl, H.out, Fr.refl _ _⟩
  · have z3 : w.cell? ⟨b, 66 + k * 4 + 3, none⟩ = some (.bool (G.arc k).c) := h.arc hk 3 (by omega)
    have zf := fun i => Blk.frozen h i
    have hk2 : (k : Int) < 64 := by omega
    by_cases hcc : (G.arc k).c = c
    · have ec : G.tcode k c = 5 := by unfold Gr.tcode; rw [e, if_pos rfl]; exact if_pos hcc
      have er : G.tn k c = G := by unfold Gr.tn; rw [ec]; rfl
      rw [e] at HC
      rw [er, ec]
      rw [hcc] at z3
      clear h er ec e
      go_enter Tryz.func127, Tryz.ntmps127
      go_wp2_with fail
      refine HC.out.mono ?_
      rintro e w1 ⟨rfl, rfl⟩
      go_wp2
      go_ret
      exact ⟨rfl, H.out, Fr.refl _ _⟩
    · have ec : G.tcode k c = 0 := by unfold Gr.tcode; rw [e, if_pos rfl]; exact if_neg hcc
      have er : G.tn k c = G.shut k c := by unfold Gr.tn; rw [ec]; rfl
      have hb : ((G.arc k).c == c) = false := by simpa using hcc
      rw [e] at HC
      rw [er, ec]
      clear h er ec e hcc
      go_enter Tryz.func127, Tryz.ntmps127
      go_wp2_with fail
      refine HC.out.mono ?_
      rintro e w1 ⟨rfl, rfl⟩
      go_wp2
      go_ret
      exact ⟨rfl, Blk.congr (Blk.setCell H.out (66 + k * 4 + 3) (.bool c)) (fun i _ => G.rshut_cell k hk c i), (Fr.refl _ _).set1 _ _⟩

set_option maxRecDepth 100000 in
set_option maxHeartbeats 1000000 in
theorem rgweigh_calls {w : World} {b : Nat} {G : Gr} (h : RGM w b G) (id x : Int) :
    Calls Tryz.prog 128 #[.pointer (some ⟨b, 0, none⟩), .int .i64 id, .int .i64 x] w fun e w' => e = .returned (.int .i64 (G.wcode id x)) ∧ RGM w' b (G.wt id x) ∧ Fr (One b) w w' := by
  have HC := hid (rgcode_calls h id)
  have H := hid h
  by_cases hx : 1 ≤ x ∧ x ≤ 4611686018427387904
  · have hxd : decide (1 ≤ x ∧ x ≤ 4611686018427387904) = true := decide_eq_true hx
    rcases G.code_cases id with ⟨e, h1⟩ | ⟨k, rfl, hk, htk, e⟩ | ⟨k, rfl, hk, htk, e⟩
    · have ec : G.wcode id x = 1 := by unfold Gr.wcode; rw [if_pos hx, e]
      have er : G.wt id x = G := by unfold Gr.wt; rw [ec]; rfl
      rw [e] at HC
      rw [er, ec]
      clear h er ec e hx
      go_enter Tryz.func128, Tryz.ntmps128
      go_wp2_with fail
      refine (rgweight_calls x _).mono ?_
      rintro e w1 ⟨rfl, rfl⟩
      rw [hxd]
      go_wp2_with fail
      refine HC.out.mono ?_
      rintro e w1 ⟨rfl, rfl⟩
      go_wp2
      go_ret
      exact ⟨rfl, H.out, Fr.refl _ _⟩
    · have ec : G.wcode k x = 3 := by unfold Gr.wcode; rw [if_pos hx, e]
      have er : G.wt k x = G := by unfold Gr.wt; rw [ec]; rfl
      rw [e] at HC
      rw [er, ec]
      clear h er ec e hx
      go_enter Tryz.func128, Tryz.ntmps128
      go_wp2_with fail
      refine (rgweight_calls x _).mono ?_
      rintro e w1 ⟨rfl, rfl⟩
      rw [hxd]
      go_wp2_with fail
      refine HC.out.mono ?_
      rintro e w1 ⟨rfl, rfl⟩
      go_wp2
      go_ret
      exact ⟨rfl, H.out, Fr.refl _ _⟩
    · have ec : G.wcode k x = 0 := by unfold Gr.wcode; rw [if_pos hx, e]
      have er : G.wt k x = G.wei k x := by unfold Gr.wt; rw [ec]; rfl
      have z3 : w.cell? ⟨b, 66 + k * 4 + 2, none⟩ = some (.int .i64 (G.arc k).w) := h.arc hk 2 (by omega)
      have zf := fun i => Blk.frozen h i
      have hk2 : (k : Int) < 64 := by omega
      rw [e] at HC
      rw [er, ec]
      clear h er ec e hx
      go_enter Tryz.func128, Tryz.ntmps128
      go_wp2_with fail
      refine (rgweight_calls x _).mono ?_
      rintro e w1 ⟨rfl, rfl⟩
      rw [hxd]
      go_wp2_with fail
      refine HC.out.mono ?_
      rintro e w1 ⟨rfl, rfl⟩
      go_wp2
      go_ret
      exact ⟨rfl, Blk.congr (Blk.setCell H.out (66 + k * 4 + 2) (.int .i64 x)) (fun i _ => G.rwei_cell k hk x i), (Fr.refl _ _).set1 _ _⟩
  · have hxd : decide (1 ≤ x ∧ x ≤ 4611686018427387904) = false := decide_eq_false hx
    have ec : G.wcode id x = 1 := by unfold Gr.wcode; rw [if_neg hx]
    have er : G.wt id x = G := by unfold Gr.wt; rw [ec]; rfl
    rw [er, ec]
    clear h er ec hx
    go_enter Tryz.func128, Tryz.ntmps128
    go_wp2_with fail
    refine (rgweight_calls x _).mono ?_
    rintro e w1 ⟨rfl, rfl⟩
    rw [hxd]
    go_wp2
    go_ret
    exact ⟨rfl, H.out, Fr.refl _ _⟩

end Go.Proofs.YtoepbhacpidcbaaGreatDoor

/- Of the open arcs of a graph the least: the program's, of a graph in memory; the document's, walked; the right entry in general. -/
set_option linter.unusedVariables false
set_option linter.unusedSimpArgs false
namespace Go.Proofs.YtoepbhacpidcbaaGreatDoor
open Go.RowKit Go.Deep

def toId (i : Nat) : Id64 := if h : i < 64 then ⟨(i : Int), by omega⟩ else id0
theorem toId_val {i : Nat} (h : i < 64) : (toId i).1 = (i : Int) := by unfold toId; rw [dif_pos h]
/-- The places of which something holds, as numbers of places. -/
def selI (p : Nat → Bool) : List Id64 := ((List.range 64).filter p).map toId
theorem selI_val (p : Nat → Bool) : (selI p).map (fun z : Id64 => z.1) = sel p := by
  unfold selI sel
  rw [List.map_map]
  refine List.map_congr_left fun i hi => ?_
  exact toId_val (by simpa using (List.mem_filter.1 hi).1)
theorem selI_len (p : Nat → Bool) : (selI p).length = (sel p).length := by rw [← selI_val p, List.length_map]
theorem selI_get (p : Nat → Bool) (j : Nat) (hj : j < (sel p).length) : ((selI p)[j]?.getD id0).1 = (sel p).getD j 0 := by
  have hj' : j < (selI p).length := by rw [selI_len]; exact hj
  rw [← selI_val p, List.getD, List.getElem?_map, List.getElem?_eq_getElem hj']; rfl

def rstep (arc : Nat → Arc4) (u v : Int) (acc : Int × Int) (z : Int) : Int × Int :=
  if (arc z.toNat).t = u ∧ (arc z.toNat).h = v ∧ (arc z.toNat).c = false ∧ (arc z.toNat).w < acc.1 then ((arc z.toNat).w, z) else acc
/-- The least open arc from one vertex to another one: its weight, its place. -/
def Gr.best (G : Gr) (u v : Int) : Int × Int := (sel G.tk).foldl (rstep G.arc u v) (4611686018427387906, -1)
def Gr.outs (G : Gr) (u : Int) : Nat → Bool := fun i => G.tk i && decide ((G.arc i).t = u)
theorem best_aux (G : Gr) (u v : Int) : ∀ (l : List Nat), (∀ i ∈ l, i < 64) → ∀ acc, ((l.filter (G.outs u)).map toId).foldl (bestStep G.arc v) acc = ((l.filter G.tk).map (fun i : Nat => (i : Int))).foldl (rstep G.arc u v) acc := by
  intro l
  induction l with
  | nil => intro _ acc; rfl
  | cons i l ih =>
    intro hl acc
    have hi := hl i (by simp)
    have ih' := ih (fun j hj => hl j (by simp [hj]))
    have hbs : bestStep G.arc v acc (toId i) = if (G.arc i).h = v ∧ (G.arc i).c = false ∧ (G.arc i).w < acc.1 then ((G.arc i).w, (i : Int)) else acc := by
      unfold bestStep; rw [toId_val hi]; rfl
    have hrs : rstep G.arc u v acc (i : Nat) = if (G.arc i).t = u ∧ (G.arc i).h = v ∧ (G.arc i).c = false ∧ (G.arc i).w < acc.1 then ((G.arc i).w, (i : Int)) else acc := rfl
    cases htk : G.tk i with
    | false =>
      rw [List.filter_cons_of_neg (by simp [Gr.outs, htk]), List.filter_cons_of_neg (by simp [htk])]
      exact ih' acc
    | true =>
      by_cases ht : (G.arc i).t = u
      · rw [List.filter_cons_of_pos (by simp [Gr.outs, htk, ht]), List.filter_cons_of_pos htk, List.map_cons, List.map_cons, List.foldl_cons, List.foldl_cons, ih', hbs, hrs]
        congr 1
        by_cases hc : (G.arc i).h = v ∧ (G.arc i).c = false ∧ (G.arc i).w < acc.1
        · rw [if_pos hc, if_pos ⟨ht, hc⟩]
        · rw [if_neg hc, if_neg (fun h => hc h.2)]
      · rw [List.filter_cons_of_neg (by simp [Gr.outs, ht]), List.filter_cons_of_pos htk, List.map_cons, List.foldl_cons, ih', hrs, if_neg (fun h => ht h.1)]
theorem best_eq (G : Gr) (u v : Int) : bestOf G.arc v (selI (G.outs u)) = G.best u v := best_aux G u v (List.range 64) (fun i hi => by simpa using hi) _

theorem foldl_inv {α β : Type} (P : β → Prop) (f : β → α → β) : ∀ (l : List α), (∀ b, P b → ∀ a ∈ l, P (f b a)) → ∀ b, P b → P (l.foldl f b) := by
  intro l
  induction l with
  | nil => intro _ b hb; exact hb
  | cons a l ih => intro h b hb; exact ih (fun b hb c hc => h b hb c (by simp [hc])) _ (h b hb a (by simp))
/-- The least open arc is one, or there is none. -/
theorem Gr.best_is (G : Gr) (u v : Int) : G.best u v = (4611686018427387906, -1) ∨ ∃ k : Nat, k < 64 ∧ G.tk k = true ∧ (G.arc k).t = u ∧ (G.arc k).h = v ∧ (G.arc k).c = false ∧ (G.arc k).w < 4611686018427387906 ∧ G.best u v = ((G.arc k).w, (k : Int)) := by
  refine foldl_inv (fun acc => acc = (4611686018427387906, -1) ∨ ∃ k : Nat, k < 64 ∧ G.tk k = true ∧ (G.arc k).t = u ∧ (G.arc k).h = v ∧ (G.arc k).c = false ∧ (G.arc k).w < 4611686018427387906 ∧ acc = ((G.arc k).w, (k : Int))) (rstep G.arc u v) (sel G.tk) ?_ _ (.inl rfl)
  intro acc hacc z hz
  obtain ⟨k, hk, htk, rfl⟩ := (sel_mem _ _).1 hz
  unfold rstep
  by_cases hc : (G.arc ((k : Nat) : Int).toNat).t = u ∧ (G.arc ((k : Nat) : Int).toNat).h = v ∧ (G.arc ((k : Nat) : Int).toNat).c = false ∧ (G.arc ((k : Nat) : Int).toNat).w < acc.1
  · rw [if_pos hc]
    have hlt : acc.1 ≤ 4611686018427387906 := by
      rcases hacc with rfl | ⟨j, _, _, _, _, _, h, rfl⟩
      · exact Int.le_refl _
      · exact Int.le_of_lt h
    exact .inr ⟨k, hk, htk, hc.1, hc.2.1, hc.2.2.1, by have := hc.2.2.2; simp at this; omega, rfl⟩
  · rw [if_neg hc]; exact hacc
theorem Gr.best_le (G : Gr) (u v : Int) : (G.best u v).1 ≤ 4611686018427387906 := by
  rcases G.best_is u v with h | ⟨k, _, _, _, _, _, h1, h⟩
  · rw [h]; exact Int.le_refl _
  · rw [h]; exact Int.le_of_lt h1
theorem foldl_le (arc : Nat → Arc4) (u v : Int) : ∀ (l : List Int) (acc : Int × Int), (l.foldl (rstep arc u v) acc).1 ≤ acc.1 := by
  intro l
  induction l with
  | nil => intro acc; exact Int.le_refl _
  | cons z l ih =>
    intro acc
    refine Int.le_trans (ih _) ?_
    unfold rstep
    split
    · rename_i h; exact Int.le_of_lt h.2.2.2
    · exact Int.le_refl _
theorem foldl_least (arc : Nat → Arc4) (u v : Int) : ∀ (l : List Int) (acc : Int × Int) (z : Int), z ∈ l → (arc z.toNat).t = u → (arc z.toNat).h = v → (arc z.toNat).c = false → (l.foldl (rstep arc u v) acc).1 ≤ (arc z.toNat).w := by
  intro l
  induction l with
  | nil => intro acc z hz; cases hz
  | cons y l ih =>
    intro acc z hz h1 h2 h3
    rcases List.mem_cons.1 hz with rfl | hz
    · refine Int.le_trans (foldl_le arc u v l _) ?_
      unfold rstep
      by_cases hc : (arc z.toNat).w < acc.1
      · rw [if_pos ⟨h1, h2, h3, hc⟩]; exact Int.le_refl _
      · rw [if_neg (fun h => hc h.2.2.2)]; omega
    · exact ih _ z hz h1 h2 h3
theorem Gr.best_least (G : Gr) {k : Nat} (hk : k < 64) (htk : G.tk k = true) (hc : (G.arc k).c = false) : (G.best (G.arc k).t (G.arc k).h).1 ≤ (G.arc k).w :=
  foldl_least G.arc _ _ (sel G.tk) _ (k : Nat) ((sel_mem _ _).2 ⟨k, hk, htk, rfl⟩) rfl rfl hc
theorem GMem.arcs {w : World} {L : GLoc} {G : Gr} (h : GMem w L G) : ArcsAt w L.b G.arc := fun i hi => by
  have key : ∀ c, c < 4 → w.cell? ⟨L.b, i * 5 + c, none⟩ = some (G.slot i c) := fun c hc => by
    rw [h.blk.cell (by omega), Gr.slot_cell G L.ba i c hi (by omega)]
  exact ⟨key 0 (by omega), key 1 (by omega), key 2 (by omega), key 3 (by omega)⟩
theorem outs_lst (G : Gr) (u : Nat) : sel (G.outs u) = G.lst (2 * u) := by
  unfold Gr.lst
  refine sel_congr fun i _ => ?_
  unfold Gr.outs Gr.at
  rw [if_pos (by omega), show 2 * u / 2 = u by omega]
theorem GMem.out {w : World} {L : GLoc} {G : Gr} (h : GMem w L G) (u : Int) : OutAt w.heap.size w L.b u (selI (G.outs u)) := by
  have hn := h.ok.n2
  have h0 : w.cell? ⟨L.b, 320, none⟩ = some (.slice (some ⟨L.ba, 0, none⟩) G.n G.n) := h.blk.cell (i := 320) (by omega)
  refine ⟨h.blk.lt, ?_, some ⟨L.ba, 0, none⟩, G.n, G.n, h0, by omega, ?_⟩
  · rw [selI_len]; have := sel_len (G.outs u); omega
  · by_cases hu : 0 ≤ u ∧ u < G.n
    · obtain ⟨k, rfl⟩ := Int.eq_ofNat_of_zero_le hu.1
      have hk : k < G.n := by omega
      have hl : (selI (G.outs (k : Nat))).length = (G.lst (2 * k)).length := by rw [selI_len, outs_lst]
      have hc : w.cell? ⟨L.ba, 2 * k, none⟩ = some (ilv (G.lst (2 * k)) (L.c (2 * k)) (L.g (2 * k))) := h.at_.cell (by omega)
      have hls := h.ls (2 * k) (by omega)
      refine .inr ⟨L.ba, k, L.c (2 * k), (L.g (2 * k)).map (fun g => ⟨g, 0, none⟩), rfl, rfl, hk, h.at_.lt, ?_, ?_⟩
      · rw [show k * 2 = 2 * k by omega, hc, hl]
        cases hg : L.g (2 * k) with
        | none =>
          rw [hg] at hls
          obtain ⟨e1, e2⟩ := hls
          rw [e1, e2]; rfl
        | some g => rfl
      · cases hg : L.g (2 * k) with
        | none =>
          rw [hg] at hls
          obtain ⟨e1, e2⟩ := hls
          refine .inl ⟨?_, ?_⟩
          · rw [hl, e1, e2]; rfl
          · exact List.length_eq_zero_iff.1 (by rw [hl, e1]; rfl)
        | some g =>
          rw [hg] at hls
          obtain ⟨V, h1, h2, h3, h4⟩ := hls
          refine .inr ⟨g, 0, L.c (2 * k), rfl, h1.lt, fun j hj => ?_⟩
          rw [hl] at hj
          rw [Nat.zero_add, selI_get _ _ (by rw [outs_lst]; exact hj), outs_lst, ← h4 j hj]
          exact h1.cell (by omega)
    · refine .inl ⟨decide_eq_false hu, ?_⟩
      refine List.length_eq_zero_iff.1 ?_
      rw [selI_len]
      refine List.length_eq_zero_iff.2 (List.eq_nil_iff_forall_not_mem.2 fun z hz => ?_)
      obtain ⟨i, hi, hp, _⟩ := (sel_mem _ _).1 hz
      unfold Gr.outs at hp
      rw [Bool.and_eq_true] at hp
      have := h.ok.arc i hi hp.1
      have e : (G.arc i).t = u := by simpa using hp.2
      omega
/-- What the document has, by way of one of the first vertices by rank: the least sum, and its vertex. -/
def Ix.rl (x : Ix) (u v : Int) : Nat → Int × Int
  | 0 => (4611686018427387906, -1)
  | k + 1 => if x.sum2 u v k < (x.rl u v k).1 then (x.sum2 u v k, (x.by_ k : Nat)) else x.rl u v k
theorem Ix.rl_is (x : Ix) (u v : Int) : ∀ k, x.rl u v k = (4611686018427387906, -1) ∨ (0 ≤ (x.rl u v k).2 ∧ (x.rl u v k).1 < 4611686018427387906) := by
  intro k
  induction k with
  | zero => exact .inl rfl
  | succ k ih =>
    unfold Ix.rl
    split
    · rename_i h
      refine .inr ⟨by show (0 : Int) ≤ (x.by_ k : Nat); omega, ?_⟩
      show x.sum2 u v k < _
      rcases ih with e | e
      · rw [e] at h; exact h
      · omega
    · exact ih
theorem Ix.bestTo_rl (x : Ix) (u v : Int) (b : En) (hb : b.w ≤ 4611686018427387906) : ∀ k, x.bestTo u v b k = if (x.rl u v k).1 < b.w then ⟨(x.rl u v k).1, -1, (x.rl u v k).2⟩ else b := by
  intro k
  induction k with
  | zero => rw [Ix.bestTo, Ix.rl, if_neg (by show ¬ (4611686018427387906 : Int) < b.w; omega)]
  | succ k ih =>
    rw [Ix.bestTo, ih, Ix.rl]
    obtain ⟨s, hs⟩ : ∃ s, x.sum2 u v k = s := ⟨_, rfl⟩
    obtain ⟨r, hr⟩ : ∃ r, x.rl u v k = r := ⟨_, rfl⟩
    rw [hs, hr]
    by_cases h1 : r.1 < b.w
    · rw [if_pos h1]
      by_cases h2 : s < r.1
      · rw [if_pos h2, if_pos h2, if_pos (show s < b.w by omega)]
      · rw [if_neg h2, if_neg h2, if_pos h1]
    · rw [if_neg h1]
      by_cases h3 : s < b.w
      · rw [if_pos h3, if_pos (show s < r.1 by omega), if_pos h3]
      · rw [if_neg h3]
        by_cases h2 : s < r.1
        · rw [if_pos h2, if_neg h3]
        · rw [if_neg h2, if_neg h1]
/-- The document's way to say it. -/
def Ix.rbest (x : Ix) (u v : Int) (d : Int × Int) : En :=
  if x.two u v = true then
    (if 0 ≤ d.2 ∧ d.1 ≤ (x.rl u v (min (x.rk u.toNat) (x.rk v.toNat))).1 then ⟨d.1, d.2, -1⟩
     else if 0 ≤ (x.rl u v (min (x.rk u.toNat) (x.rk v.toNat))).2 then ⟨(x.rl u v (min (x.rk u.toNat) (x.rk v.toNat))).1, -1, (x.rl u v (min (x.rk u.toNat) (x.rk v.toNat))).2⟩ else En.none)
  else En.none
theorem Ix.rbest_eq (x : Ix) (u v : Int) (d : Int × Int) (hd : d.1 ≤ 4611686018427387906) : x.best u v d = x.rbest u v d := by
  unfold Ix.best Ix.rbest
  cases ht : x.two u v with
  | false => rfl
  | true =>
    rw [if_pos rfl, if_pos rfl]
    have hr := x.rl_is u v (min (x.rk u.toNat) (x.rk v.toNat))
    obtain ⟨r, hr'⟩ : ∃ r, x.rl u v (min (x.rk u.toNat) (x.rk v.toNat)) = r := ⟨_, rfl⟩
    by_cases h0 : 0 ≤ d.2
    · rw [if_pos h0, Ix.bestTo_rl _ _ _ _ hd, hr']
      rw [hr'] at hr
      show (if r.1 < d.1 then _ else _) = _
      by_cases h1 : r.1 < d.1
      · rw [if_pos h1, if_neg (fun h => by omega)]
        rcases hr with e | e
        · rw [e] at h1; simp at h1; omega
        · rw [if_pos e.1]
      · rw [if_neg h1, if_pos ⟨h0, by omega⟩]
    · rw [if_neg h0, Ix.bestTo_rl _ _ _ _ (Int.le_refl _), hr']
      rw [hr'] at hr
      rw [show (if 0 ≤ d.2 ∧ d.1 ≤ r.1 then (⟨d.1, d.2, -1⟩ : En) else if 0 ≤ r.2 then ⟨r.1, -1, r.2⟩ else En.none) = if 0 ≤ r.2 then ⟨r.1, -1, r.2⟩ else En.none from if_neg (fun h => h0 h.1)]
      show (if r.1 < 4611686018427387906 then _ else _) = _
      rcases hr with e | e
      · rw [e]; rfl
      · rw [if_pos e.2, if_pos e.1]

/-- The right entry from one vertex to another one, in general. -/
theorem xbest_calls {x : Ix} {w : World} {L : IxLoc} (h : IxMem w L x) (hcap : x.n ≤ L.cb) {Lg : GLoc} {G : Gr} (hg : GMem w Lg G) (u v : Int) :
    Calls Tryz.prog 92 #[.pointer (some ⟨L.b, 0, none⟩), .pointer (some ⟨Lg.b, 0, none⟩), .int .i64 u, .int .i64 v] w fun e w' => e = .returned (x.best u v (G.best u v)).val ∧ Fr No w w' := by
  cases ht : x.two u v with
  | false =>
    have e : x.best u v (G.best u v) = En.none := by unfold Ix.best; rw [ht]; rfl
    rw [e]
    exact best_no h Lg.b u v ht
  | true =>
    obtain ⟨_, hu0, _, hv0, _⟩ := two_iff ht
    obtain ⟨a, rfl⟩ := Int.eq_ofNat_of_zero_le hu0
    obtain ⟨b, rfl⟩ := Int.eq_ofNat_of_zero_le hv0
    have e : x.best (a : Nat) (b : Nat) (G.best (a : Nat) (b : Nat)) = x.bestTo (a : Nat) (b : Nat) (if 0 ≤ (G.best (a : Nat) (b : Nat)).2 then ⟨(G.best (a : Nat) (b : Nat)).1, (G.best (a : Nat) (b : Nat)).2, -1⟩ else En.none) (min (x.rk a) (x.rk b)) := by
      unfold Ix.best; rw [if_pos ht]; rfl
    rw [e]
    have := best_yes h hcap (gb := Lg.b) ht (hg.out (a : Nat)) hg.arcs
    rw [best_eq] at this
    exact this

end Go.Proofs.YtoepbhacpidcbaaGreatDoor
/- The index that is built from nothing, plain: each entry is the right one. -/
set_option linter.unusedVariables false
set_option linter.unusedSimpArgs false
namespace Go.Proofs.YtoepbhacpidcbaaGreatDoor
open Go.RowKit Go.Deep

abbrev PrEl (n : Nat) := { p : Nat × Nat // p.1 < n ∧ p.2 < n ∧ p.1 ≠ p.2 }
/-- The pairs of ranks as they are set: those of one lower rank. -/
def pr1 (n lo : Nat) : Nat → List (PrEl n)
  | 0 => []
  | hi + 1 => if h : lo < hi ∧ hi < n then pr1 n lo hi ++ [⟨(lo, hi), ⟨by show lo < n; omega, h.2, by show lo ≠ hi; omega⟩⟩, ⟨(hi, lo), ⟨h.2, by show lo < n; omega, by show hi ≠ lo; omega⟩⟩] else pr1 n lo hi
def prs (n : Nat) : Nat → List (PrEl n)
  | 0 => []
  | lo + 1 => prs n lo ++ pr1 n lo n
theorem pr1_succ (n lo hi : Nat) : pr1 n lo (hi + 1) = if h : lo < hi ∧ hi < n then pr1 n lo hi ++ [⟨(lo, hi), ⟨by show lo < n; omega, h.2, by show lo ≠ hi; omega⟩⟩, ⟨(hi, lo), ⟨h.2, by show lo < n; omega, by show hi ≠ lo; omega⟩⟩] else pr1 n lo hi := rfl
theorem prs_succ (n lo : Nat) : prs n (lo + 1) = prs n lo ++ pr1 n lo n := rfl
theorem pr1_low (n lo : Nat) : ∀ k, k ≤ lo + 1 → pr1 n lo k = []
  | 0, _ => rfl
  | k + 1, h => by rw [pr1_succ, dif_neg (fun hh => by omega), pr1_low n lo k (by omega)]
theorem pr1_mem (n lo : Nat) : ∀ k (el : PrEl n), el ∈ pr1 n lo k ↔ min el.1.1 el.1.2 = lo ∧ max el.1.1 el.1.2 < k
  | 0, el => by simp [pr1]
  | k + 1, el => by
    obtain ⟨⟨a, b⟩, ha, hb, hne⟩ := el
    simp only at ha hb hne
    rw [pr1_succ]
    split
    · rename_i h
      rw [List.mem_append, pr1_mem n lo k]
      simp only [List.mem_cons, List.not_mem_nil, or_false, Subtype.mk.injEq, Prod.mk.injEq]
      omega
    · rename_i h
      rw [pr1_mem n lo k]
      simp only
      omega
theorem prs_mem (n : Nat) : ∀ k (el : PrEl n), el ∈ prs n k ↔ min el.1.1 el.1.2 < k
  | 0, el => by simp [prs]
  | k + 1, el => by
    have := el.2
    rw [prs_succ, List.mem_append, prs_mem n k el, pr1_mem]
    omega
theorem prs_all (n : Nat) (el : PrEl n) : el ∈ prs n n := by
  rw [prs_mem]
  have := el.2
  omega
theorem pr1_pw (n lo : Nat) : ∀ k, (pr1 n lo k).Pairwise (fun p q => p ≠ q)
  | 0 => List.Pairwise.nil
  | k + 1 => by
    rw [pr1_succ]
    split
    · rename_i h
      rw [List.pairwise_append]
      refine ⟨pr1_pw n lo k, ?_, ?_⟩
      · refine List.pairwise_pair.2 fun e => ?_
        simp only [Subtype.mk.injEq, Prod.mk.injEq] at e
        omega
      · intro a ha b hb e
        rw [pr1_mem] at ha
        simp only [List.mem_cons, List.not_mem_nil, or_false] at hb
        rcases hb with rfl | rfl <;> subst e <;> simp only at ha <;> omega
    · exact pr1_pw n lo k
def prR (n : Nat) (p q : PrEl n) : Prop := min p.1.1 p.1.2 ≤ min q.1.1 q.1.2 ∧ p ≠ q
theorem prs_pw (n : Nat) : ∀ k, (prs n k).Pairwise (prR n)
  | 0 => List.Pairwise.nil
  | k + 1 => by
    rw [prs_succ, List.pairwise_append]
    refine ⟨prs_pw n k, ?_, ?_⟩
    · refine List.Pairwise.imp_of_mem ?_ (pr1_pw n k n)
      intro a b ha hb h
      rw [pr1_mem] at ha hb
      exact ⟨by omega, h⟩
    · intro a ha b hb
      rw [prs_mem] at ha
      rw [pr1_mem] at hb
      exact ⟨by omega, fun e => by subst e; omega⟩
theorem pr1_pre (n lo b : Nat) : ∀ d, pr1 n lo b <+: pr1 n lo (b + d)
  | 0 => List.prefix_refl _
  | d + 1 => by
    have := pr1_pre n lo b d
    show pr1 n lo b <+: pr1 n lo ((b + d) + 1)
    rw [pr1_succ]
    split
    · exact this.trans (List.prefix_append _ _)
    · exact this
theorem prs_pre (n a : Nat) : ∀ d, prs n a <+: prs n (a + d)
  | 0 => List.prefix_refl _
  | d + 1 => (prs_pre n a d).trans (by show prs n (a + d) <+: prs n ((a + d) + 1); rw [prs_succ]; exact List.prefix_append _ _)
theorem prs_at (n a b : Nat) (ha : a < n) (hb : b ≤ n) : prs n a ++ pr1 n a b <+: prs n n := by
  have h1 := pr1_pre n a b (n - b)
  rw [show b + (n - b) = n by omega] at h1
  have h2 := prs_pre n (a + 1) (n - (a + 1))
  rw [show a + 1 + (n - (a + 1)) = n by omega, prs_succ] at h2
  exact ((List.prefix_append_right_inj _).2 h1).trans h2

/-- A graph's arcs have weights that may be. -/
def Gr.Wt (G : Gr) : Prop := ∀ i, i < 64 → G.tk i = true → 1 ≤ (G.arc i).w ∧ (G.arc i).w ≤ 4611686018427387904

theorem Ix.set_two (x : Ix) (u v : Nat) (e : En) (a b : Int) : (x.set u v e).two a b = x.two a b := rfl
theorem Ix.set_at (x : Ix) (u v : Nat) (e : En) (a b : Nat) (h : ¬ (a = u ∧ b = v)) : (x.set u v e).at_ (a : Nat) (b : Nat) = x.at_ (a : Nat) (b : Nat) := by
  unfold Ix.at_
  rw [Ix.set_two]
  by_cases ht : x.two (a : Nat) (b : Nat) = true
  · rw [if_pos ht, if_pos ht]
    show (if a = u ∧ b = v then e else x.ent a b) = x.ent a b
    rw [if_neg h]
  · rw [if_neg ht, if_neg ht]
theorem Ix.rl_congr {x y : Ix} (hb : y.by_ = x.by_) {u v : Int} : ∀ k, (∀ i, i < k → y.sum2 u v i = x.sum2 u v i) → y.rl u v k = x.rl u v k := by
  intro k
  induction k with
  | zero => intro _; rfl
  | succ k ih =>
    intro h
    rw [Ix.rl, Ix.rl, ih (fun i hi => h i (by omega)), h k (by omega), hb]
theorem Ix.best_congr {x y : Ix} (hn : y.n = x.n) (hr : y.rk = x.rk) (hb : y.by_ = x.by_) {u v : Int} (d : Int × Int) (hd : d.1 ≤ 4611686018427387906) (h : ∀ i, i < min (x.rk u.toNat) (x.rk v.toNat) → y.sum2 u v i = x.sum2 u v i) : y.best u v d = x.best u v d := by
  rw [Ix.rbest_eq _ _ _ _ hd, Ix.rbest_eq _ _ _ _ hd]
  have ht : y.two u v = x.two u v := by unfold Ix.two; rw [hn]
  unfold Ix.rbest
  rw [ht, hr, Ix.rl_congr hb _ h]

/-- The first least sum by way of a lower vertex. -/
theorem Ix.rl_fst (x : Ix) (u v : Int) : ∀ k, (x.rl u v k = (4611686018427387906, -1) ∧ ∀ i, i < k → 4611686018427387906 ≤ x.sum2 u v i) ∨
    ∃ j, j < k ∧ x.rl u v k = (x.sum2 u v j, ((x.by_ j : Nat) : Int)) ∧ x.sum2 u v j < 4611686018427387906 ∧ (∀ i, i < k → x.sum2 u v j ≤ x.sum2 u v i) ∧ ∀ i, i < j → x.sum2 u v j < x.sum2 u v i := by
  intro k
  induction k with
  | zero => exact .inl ⟨rfl, fun i hi => by omega⟩
  | succ k ih =>
    rw [Ix.rl]
    rcases ih with ⟨e, h⟩ | ⟨j, hj, e, h1, h2, h3⟩
    · rw [e]
      by_cases hc : x.sum2 u v k < 4611686018427387906
      · rw [if_pos hc]
        refine .inr ⟨k, by omega, rfl, hc, fun i hi => ?_, fun i hi => ?_⟩
        · rcases Nat.lt_or_ge i k with h' | h'
          · have := h i h'; omega
          · rw [show i = k by omega]; exact Int.le_refl _
        · have := h i hi; omega
      · rw [if_neg hc]
        refine .inl ⟨rfl, fun i hi => ?_⟩
        rcases Nat.lt_or_ge i k with h' | h'
        · exact h i h'
        · rw [show i = k by omega]; omega
    · rw [e]
      by_cases hc : x.sum2 u v k < x.sum2 u v j
      · rw [if_pos hc]
        refine .inr ⟨k, by omega, rfl, by omega, fun i hi => ?_, fun i hi => ?_⟩
        · rcases Nat.lt_or_ge i k with h' | h'
          · have := h2 i h'; omega
          · rw [show i = k by omega]; exact Int.le_refl _
        · have := h2 i hi; omega
      · rw [if_neg hc]
        refine .inr ⟨j, by omega, rfl, h1, fun i hi => ?_, h3⟩
        rcases Nat.lt_or_ge i k with h' | h'
        · exact h2 i h'
        · rw [show i = k by omega]; omega

theorem Ix.Ok.rk_by {x : Ix} (h : x.Ok) {r : Nat} (hr : r < x.n) : x.rk (x.by_ r) = r := (h.by_ r hr).2
theorem Ix.Ok.at_b {x : Ix} (h : x.Ok) (u v : Int) : 1 ≤ (x.at_ u v).w ∧ (x.at_ u v).w ≤ 4611686018427387906 := by
  unfold Ix.at_
  split
  · exact ⟨(h.ent _ _).w1, (h.ent _ _).w2⟩
  · exact ⟨by decide, by decide⟩
theorem add1_two {a b : Int} (ha : 1 ≤ a ∧ a ≤ 4611686018427387906) (hb : 1 ≤ b ∧ b ≤ 4611686018427387906) :
    add1 (add1 0 a) b = if a = 4611686018427387906 ∨ b = 4611686018427387906 then 4611686018427387906 else if 4611686018427387904 < a + b then 4611686018427387905 else a + b := by
  have ea : normI a = a := norm_id ⟨by omega, ha.2⟩
  have eb : normI b = b := norm_id ⟨by omega, hb.2⟩
  rw [add1_zero, ea]
  unfold add1
  rw [eb]
  by_cases h : a = 4611686018427387906 ∨ b = 4611686018427387906
  · rw [if_pos h, if_pos h]
  · rw [if_neg h, if_neg h]
    by_cases h2 : 4611686018427387904 < a + b
    · rw [if_pos h2, if_pos (by omega)]
    · rw [if_neg h2, if_neg (by omega)]
theorem Ix.Ok.sum2_b {x : Ix} (h : x.Ok) (u v : Int) (k : Nat) : 1 ≤ x.sum2 u v k ∧ x.sum2 u v k ≤ 4611686018427387906 := by
  have ha := h.at_b u (x.by_ k : Nat)
  have hb := h.at_b (x.by_ k : Nat) v
  unfold Ix.sum2
  rw [add1_two ha hb]
  split
  · omega
  · split <;> omega
theorem Gr.best_wt {G : Gr} (hw : G.Wt) (u v : Int) : G.best u v = (4611686018427387906, -1) ∨ (1 ≤ (G.best u v).1 ∧ (G.best u v).1 ≤ 4611686018427387904 ∧ 0 ≤ (G.best u v).2 ∧ (G.best u v).2 < 64) := by
  rcases G.best_is u v with e | ⟨k, hk, htk, _, _, _, _, e⟩
  · exact .inl e
  · have := hw k hk htk
    rw [e]
    exact .inr ⟨this.1, this.2, by show (0 : Int) ≤ (k : Nat); omega, by show ((k : Nat) : Int) < 64; omega⟩
/-- The right entry may be there. -/
theorem Ix.Ok.best_may {x : Ix} (h : x.Ok) {u v : Nat} (ht : x.two (u : Nat) (v : Nat) = true) {d : Int × Int} (hd : d = (4611686018427387906, -1) ∨ (1 ≤ d.1 ∧ d.1 ≤ 4611686018427387904 ∧ 0 ≤ d.2 ∧ d.2 < 64)) : x.May (u : Nat) (v : Nat) (x.best (u : Nat) (v : Nat) d) := by
  obtain ⟨_, _, hu, _, hv⟩ := two_iff ht
  have hu' : u < x.n := by omega
  have hv' : v < x.n := by omega
  have hru := (h.rk u hu').1
  have hrv := (h.rk v hv').1
  have hd1 : d.1 ≤ 4611686018427387906 := by rcases hd with e | e; rw [e]; exact Int.le_refl _; omega
  rw [Ix.rbest_eq _ _ _ _ hd1]
  unfold Ix.rbest
  rw [if_pos ht]
  simp only [Int.toNat_natCast]
  by_cases h1 : 0 ≤ d.2 ∧ d.1 ≤ (x.rl (u : Nat) (v : Nat) (min (x.rk u) (x.rk v))).1
  · rw [if_pos h1]
    rcases hd with e | e
    · rw [e] at h1; simp at h1
    · exact .inr ⟨e.1, by show d.1 ≤ _; omega, .inl ⟨rfl, e.2.2.1, e.2.2.2⟩⟩
  · rw [if_neg h1]
    rcases x.rl_fst (u : Nat) (v : Nat) (min (x.rk u) (x.rk v)) with ⟨e, _⟩ | ⟨j, hj, e, hlt, _, _⟩
    · rw [e, if_neg (by simp)]
      exact .inl ⟨rfl, rfl, rfl⟩
    · rw [e, if_pos (by show (0 : Int) ≤ (x.by_ j : Nat); omega)]
      have hb := h.by_ j (by omega)
      have hrm : x.rank (x.by_ j : Nat) = (j : Nat) := by unfold Ix.rank; rw [if_pos ⟨by omega, by omega⟩, Int.toNat_natCast, hb.2]
      have hr1 : x.rank (u : Nat) = (x.rk u : Nat) := by unfold Ix.rank; rw [if_pos ⟨by omega, by omega⟩, Int.toNat_natCast]
      have hr2 : x.rank (v : Nat) = (x.rk v : Nat) := by unfold Ix.rank; rw [if_pos ⟨by omega, by omega⟩, Int.toNat_natCast]
      refine .inr ⟨(h.sum2_b _ _ _).1, by show x.sum2 _ _ _ ≤ _; omega, .inr ⟨by show ((x.by_ j : Nat) : Int) ≠ -1; omega, rfl, ?_, ?_, ?_⟩⟩
      · show 0 ≤ x.rank (x.by_ j : Nat); rw [hrm]; omega
      · show x.rank (x.by_ j : Nat) < _; rw [hrm, hr1]; omega
      · show x.rank (x.by_ j : Nat) < _; rw [hrm, hr2]; omega

/-- One step: the entry between two ranks is the right one. -/
def Ix.bstep (G : Gr) (y : Ix) (p : Nat × Nat) : Ix := y.setI (y.by_ p.1 : Nat) (y.by_ p.2 : Nat) (y.best (y.by_ p.1 : Nat) (y.by_ p.2 : Nat) (G.best (y.by_ p.1 : Nat) (y.by_ p.2 : Nat)))
def Ix.bld (x : Ix) (G : Gr) {n : Nat} (l : List (PrEl n)) : Ix := l.foldl (fun y el => y.bstep G el.1) x
theorem Ix.bstep_n (G : Gr) (y : Ix) (p : Nat × Nat) : (y.bstep G p).n = y.n := Ix.setI_n _ _ _ _
theorem Ix.bstep_rk (G : Gr) (y : Ix) (p : Nat × Nat) : (y.bstep G p).rk = y.rk := Ix.setI_rk _ _ _ _
theorem Ix.bstep_by (G : Gr) (y : Ix) (p : Nat × Nat) : (y.bstep G p).by_ = y.by_ := Ix.setI_by _ _ _ _
theorem Ix.bld_shape (G : Gr) {n : Nat} : ∀ (l : List (PrEl n)) (x : Ix), (x.bld G l).n = x.n ∧ (x.bld G l).rk = x.rk ∧ (x.bld G l).by_ = x.by_ := by
  intro l
  induction l with
  | nil => intro x; exact ⟨rfl, rfl, rfl⟩
  | cons p l ih =>
    intro x
    have := ih (x.bstep G p.1)
    rw [Ix.bstep_n, Ix.bstep_rk, Ix.bstep_by] at this
    exact this
theorem Ix.bld_snoc (x : Ix) (G : Gr) {n : Nat} (l : List (PrEl n)) (el : PrEl n) : x.bld G (l ++ [el]) = (x.bld G l).bstep G el.1 := by unfold Ix.bld; rw [List.foldl_append]; rfl
theorem Ix.Ok.set {x : Ix} (h : x.Ok) (u v : Nat) {e : En} (he : e.Ok) : (x.set u v e).Ok :=
  ⟨h.n1, h.n2, h.rk, h.by_, fun a b => by show (if a = u ∧ b = v then e else x.ent a b).Ok; split; exact he; exact h.ent a b⟩
theorem Ix.Ok.by_inj {x : Ix} (h : x.Ok) {a b : Nat} (ha : a < x.n) (hb : b < x.n) (e : x.by_ a = x.by_ b) : a = b := by
  rw [← (h.by_ a ha).2, ← (h.by_ b hb).2, e]
theorem Ix.Ok.two_by {x : Ix} (h : x.Ok) {a b : Nat} (ha : a < x.n) (hb : b < x.n) (hne : a ≠ b) : x.two (x.by_ a : Nat) (x.by_ b : Nat) = true := by
  have h1 := h.by_ a ha
  have h2 := h.by_ b hb
  unfold Ix.two
  simp only [decide_eq_true_eq]
  refine ⟨fun e => hne (h.by_inj ha hb (by omega)), by omega, by omega, by omega, by omega⟩
theorem Ix.Ok.bstep_set {x : Ix} (h : x.Ok) {G : Gr} (hw : G.Wt) (p : PrEl x.n) : x.bstep G p.1 = x.set (x.by_ p.1.1) (x.by_ p.1.2) (x.best (x.by_ p.1.1 : Nat) (x.by_ p.1.2 : Nat) (G.best (x.by_ p.1.1 : Nat) (x.by_ p.1.2 : Nat))) := by
  have ht := h.two_by p.2.1 p.2.2.1 p.2.2.2
  have hm := h.best_may ht (d := G.best (x.by_ p.1.1 : Nat) (x.by_ p.1.2 : Nat)) (G.best_wt hw _ _)
  unfold Ix.bstep Ix.setI
  rw [if_pos ⟨ht, hm⟩]; rfl
theorem Ix.Ok.bstep_ok {x : Ix} (h : x.Ok) {G : Gr} (hw : G.Wt) (p : PrEl x.n) : (x.bstep G p.1).Ok := by
  have ht := h.two_by p.2.1 p.2.2.1 p.2.2.2
  rw [h.bstep_set hw p]
  exact h.set _ _ (h.may_ok (h.best_may ht (G.best_wt hw _ _)))
/-- Is the entry between two ranks the right one? -/
def Ix.RightAt (x : Ix) (G : Gr) (p : Nat × Nat) : Prop := x.ent (x.by_ p.1) (x.by_ p.2) = x.best (x.by_ p.1 : Nat) (x.by_ p.2 : Nat) (G.best (x.by_ p.1 : Nat) (x.by_ p.2 : Nat))
theorem Ix.Ok.bstep_best {x : Ix} (h : x.Ok) {G : Gr} (hw : G.Wt) (p q : PrEl x.n) (hpq : min q.1.1 q.1.2 ≤ min p.1.1 p.1.2) :
    (x.bstep G p.1).best (x.by_ q.1.1 : Nat) (x.by_ q.1.2 : Nat) (G.best (x.by_ q.1.1 : Nat) (x.by_ q.1.2 : Nat)) = x.best (x.by_ q.1.1 : Nat) (x.by_ q.1.2 : Nat) (G.best (x.by_ q.1.1 : Nat) (x.by_ q.1.2 : Nat)) := by
  obtain ⟨p1, p2, p3⟩ := p.2
  obtain ⟨q1, q2, q3⟩ := q.2
  refine Ix.best_congr (Ix.bstep_n _ _ _) (Ix.bstep_rk _ _ _) (Ix.bstep_by _ _ _) _ (G.best_le _ _) (fun i hi => ?_)
  simp only [Int.toNat_natCast] at hi
  rw [h.rk_by q1, h.rk_by q2] at hi
  rw [h.bstep_set hw p]
  unfold Ix.sum2
  rw [Ix.set_at, Ix.set_at]
  · rfl
  · rintro ⟨e1, e2⟩
    have := h.by_inj (show i < x.n by omega) p1 e1
    omega
  · rintro ⟨e1, e2⟩
    have := h.by_inj (show i < x.n by omega) p2 e2
    omega
theorem Ix.Ok.bld_right {G : Gr} (hw : G.Wt) {n : Nat} : ∀ (l : List (PrEl n)) (done : List (PrEl n)) (x : Ix), x.Ok → x.n = n → (done ++ l).Pairwise (prR n) → (∀ q ∈ done, x.RightAt G q.1) → (x.bld G l).Ok ∧ ∀ q ∈ done ++ l, (x.bld G l).RightAt G q.1 := by
  intro l
  induction l with
  | nil => intro done x h _ _ hd; exact ⟨h, by simpa [Ix.bld] using hd⟩
  | cons p l ih =>
    intro done x h hn hp hd
    subst hn
    have hok := h.bstep_ok hw p
    have hstep := ih (done ++ [p]) (x.bstep G p.1) hok (Ix.bstep_n _ _ _) (by simpa using hp) ?_
    · rw [List.append_assoc] at hstep
      exact hstep
    · intro q hq
      rw [List.pairwise_append] at hp
      have hqp : min q.1.1 q.1.2 ≤ min p.1.1 p.1.2 ∧ (q ≠ p ∨ q = p) := by
        rcases List.mem_append.1 hq with h1 | h1
        · have := hp.2.2 q h1 p (by simp)
          exact ⟨this.1, .inl this.2⟩
        · obtain rfl := List.mem_singleton.1 h1
          exact ⟨Nat.le_refl _, .inr rfl⟩
      unfold Ix.RightAt
      rw [Ix.bstep_by, h.bstep_best hw p q hqp.1]
      obtain ⟨p1, p2, p3⟩ := p.2
      obtain ⟨q1, q2, q3⟩ := q.2
      by_cases e : q = p
      · subst e
        rw [h.bstep_set hw q]
        show (if _ ∧ _ then _ else _) = _
        rw [if_pos ⟨rfl, rfl⟩]
      · have hqd : q ∈ done := by
          rcases List.mem_append.1 hq with h1 | h1
          · exact h1
          · exact absurd (List.mem_singleton.1 h1) e
        rw [h.bstep_set hw p]
        show (if _ ∧ _ then _ else _) = _
        rw [if_neg]
        · exact hd q hqd
        · rintro ⟨e1, e2⟩
          exact e (Subtype.ext (Prod.ext (h.by_inj q1 p1 e1) (h.by_inj q2 p2 e2)))

/-- Each entry is the right one. -/
def Whole (G : Gr) (x : Ix) : Prop := ∀ u v : Nat, u < x.n → v < x.n → u ≠ v → x.ent u v = x.best (u : Nat) (v : Nat) (G.best (u : Nat) (v : Nat))
/-- The index of a graph and an order. -/
def Ix.build (x : Ix) (G : Gr) : Ix := x.bld G (prs x.n x.n)
theorem Ix.build_n (x : Ix) (G : Gr) : (x.build G).n = x.n := (Ix.bld_shape G _ x).1
theorem Ix.Ok.build_whole {x : Ix} (h : x.Ok) {G : Gr} (hw : G.Wt) : (x.build G).Ok ∧ Whole G (x.build G) := by
  obtain ⟨h1, h2⟩ := Ix.Ok.bld_right hw (prs x.n x.n) [] x h rfl (by simpa using prs_pw x.n x.n) (fun q hq => by cases hq)
  refine ⟨h1, fun u v hu hv hne => ?_⟩
  rw [Ix.build_n] at hu hv
  have ru := h.rk u hu
  have rv := h.rk v hv
  have := h2 ⟨(x.rk u, x.rk v), ru.1, rv.1, fun e => hne (h.inj hu hv e)⟩ (by simpa using prs_all _ _)
  unfold Ix.RightAt at this
  rw [(Ix.bld_shape G (prs x.n x.n) x).2.2] at this
  simp only [ru.2, rv.2] at this
  exact this

end Go.Proofs.YtoepbhacpidcbaaGreatDoor
