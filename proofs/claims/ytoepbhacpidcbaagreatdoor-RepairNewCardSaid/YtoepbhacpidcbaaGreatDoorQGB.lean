/- The document's graph in memory; its functions, walked. -/
import Derived.BigRegion
import Derived.Test.YtoepbhacpidcbaaGreatDoorQBase
import Derived.Test.YtoepbhacpidcbaaGreatDoorQIdx
import Derived.Test.YtoepbhacpidcbaaGreatDoorQPerm
import Derived.Test.YtoepbhacpidcbaaGreatDoorQIdxB
import Derived.Test.YtoepbhacpidcbaaGreatDoorQRef
import Derived.Test.YtoepbhacpidcbaaGreatDoorQUnref
import Derived.Test.YtoepbhacpidcbaaGreatDoorQItr
import Derived.Test.YtoepbhacpidcbaaGreatDoorQUnE
import Derived.Test.YtoepbhacpidcbaaGreatDoorQDst
import Derived.Test.YtoepbhacpidcbaaGreatDoorQLnk
import Derived.Test.YtoepbhacpidcbaaGreatDoorQLks
import Derived.Test.YtoepbhacpidcbaaGreatDoorQMid
import Derived.Test.YtoepbhacpidcbaaGreatDoorQBig
import Derived.Test.YtoepbhacpidcbaaGreatDoorQCp2
import Derived.Test.YtoepbhacpidcbaaGreatDoorQGOps

set_option linter.unusedVariables false
set_option linter.unusedSimpArgs false
namespace Go.Proofs.YtoepbhacpidcbaaGreatDoor
open Go.RowKit Go.Deep

def Gr.rcell (G : Gr) (i : Nat) : Value :=
  if i = 0 then .int .i64 (G.n : Nat) else if i = 1 then .int .i64 (G.most : Nat) else if i < 66 then .bool (G.tk (i - 2))
  else G.slot ((i - 66) / 4) ((i - 66) % 4)
/-- The document's graph lies at b. -/
def RGM (w : World) (b : Nat) (G : Gr) : Prop := Blk w b 322 52 G.rcell

theorem RGM.fr {w w' : World} {b : Nat} {G : Gr} (h : RGM w b G) {F : Nat → Prop} (hf : Fr F w w') (hF : ¬ F b) : RGM w' b G := Blk.fr h hf hF
theorem RGM.no {w w' : World} {b : Nat} {G : Gr} (h : RGM w b G) (hf : Fr No w w') : RGM w' b G := h.fr hf (fun h => h)
theorem RGM.c0 {w : World} {b : Nat} {G : Gr} (h : RGM w b G) : w.cell? ⟨b, 0, none⟩ = some (.int .i64 (G.n : Nat)) := Blk.cell h (i := 0) (by omega)
theorem RGM.c1 {w : World} {b : Nat} {G : Gr} (h : RGM w b G) : w.cell? ⟨b, 1, none⟩ = some (.int .i64 (G.most : Nat)) := Blk.cell h (i := 1) (by omega)
theorem RGM.tkc {w : World} {b : Nat} {G : Gr} (h : RGM w b G) {k : Nat} (hk : k < 64) : w.cell? ⟨b, 2 + k, none⟩ = some (.bool (G.tk k)) := by
  rw [Blk.cell h (by omega), Gr.rcell, if_neg (by omega), if_neg (by omega), if_pos (by omega), show 2 + k - 2 = k by omega]
theorem RGM.arc {w : World} {b : Nat} {G : Gr} (h : RGM w b G) {k : Nat} (hk : k < 64) (c : Nat) (hc : c < 4) : w.cell? ⟨b, 66 + k * 4 + c, none⟩ = some (G.slot k c) := by
  rw [Blk.cell h (by omega), Gr.rcell, if_neg (by omega), if_neg (by omega), if_neg (by omega), show (66 + k * 4 + c - 66) / 4 = k by omega, show (66 + k * 4 + c - 66) % 4 = c by omega]
theorem selA_succ (p : Nat → Bool) (k : Nat) : selA p (k + 1) = if p k = true then selA p k ++ [(k : Int)] else selA p k := by
  unfold selA
  rw [List.range_succ, List.filter_append, List.map_append]
  by_cases e : p k = true
  · rw [if_pos e, List.filter_cons_of_pos e]; rfl
  · rw [if_neg e, List.filter_cons_of_neg e]; simp
theorem selA_len (p : Nat → Bool) (k : Nat) : (selA p k).length ≤ k := by
  unfold selA
  rw [List.length_map]
  have := List.length_filter_le p (List.range k)
  simpa using this

set_option maxRecDepth 100000 in
set_option maxHeartbeats 2000000 in
theorem rgids2_calls {w : World} {b : Nat} {G : Gr} (h : RGM w b G) :
    Calls Tryz.prog 106 #[.pointer (some ⟨b, 0, none⟩)] w fun e w' => ∃ A c, e = .returned (.slice A (sel G.tk).length c) ∧ Fr No w w' ∧ SlL w' (.slice A (sel G.tk).length c) (sel G.tk) ∧ ∀ a : Addr, A = some a → w.heap.size ≤ a.block := by
  have H := hid h
  clear h
  go_enter Tryz.func106, Tryz.ntmps106
  go_wp2
  go_loopg [3, 4] 65 (fun g p q wr => ∃ (r : Nat) (l : List Int) (A : Option Addr) (c : Nat), q = .int .i64 r ∧ r ≤ 64 ∧ p = .slice A l.length c ∧ wr.ownsRow w.heap.size 3 1 (.slice A l.length c) l.length (l.map (Value.int .i64)) ∧ (l = [] → A = none ∧ c = 0) ∧
      l = selA G.tk r ∧ g = 65 - r ∧ Fr No w wr)
  case atStart => exact ⟨0, [], none, 0, rfl, by omega, rfl, World.ownsRow_nil _ _ _ _, fun _ => ⟨rfl, rfl⟩, rfl, rfl, Fr.refl _ _⟩
  case round =>
    obtain ⟨r, l, A, c, rfl, hr, rfl, hown, hnil, hl, hg, hf⟩ := hrel
    have HO := hid hown
    have HNIL := hid hnil
    have HL := hid hl
    have HG := hid hg
    have HF := hid hf
    have hlen : l.length ≤ 64 := by rw [hl]; have := selA_len G.tk r; omega
    have hsz := hf.size
    clear hown hnil hl hg
    by_cases hr64 : r < 64
    · have hr2 : (r : Int) < 64 := by omega
      have k0 := (H.out.no hf).tkc hr64
      have hst := selA_succ G.tk r
      clear hf
      cases htk : G.tk r with
      | true =>
        rw [htk] at k0 hst
        rw [if_pos rfl] at hst
        have HST := hid hst
        clear hst htk
        go_wp2_with (at_builtin; refine wpList_push (.tmp 15) (.tmp 17) (.slice A l.length c) l wr.heap.size 1 (r : Nat) ?_ ?_ ?_ ?_ w.heap.size ?_ ?_ ?_ ?_ ?_; rfl; rfl; rfl; rfl; exact own_fr HO.out ((Fr.refl No _).alloc _) (fun _ _ h => h); (simp; omega); exact cell_of (heap_new wr _) 0; omega; intro g' cap' w6 hown4 hgrow4 hat4 hlt4; have HO6 := hid hown4; have HG6 := hid hgrow4; clear hown4 hgrow4 hat4)
        all_goals go_roundg (65 - (r + 1))
        all_goals first
          | (have := HG.out; omega)
          | exact ⟨r + 1, l ++ [(r : Int)], some ⟨g', 0, none⟩, cap', by go_num, by omega, by simp, HO6.out, fun e => by simp at e, by rw [HST.out, HL.out], rfl, (HF.out.alloc _).grown HG6.out (fun k e => .inr (own_block HO.out k e).1)⟩
      | false =>
        rw [htk] at k0 hst
        rw [if_neg (by simp)] at hst
        have HST := hid hst
        clear hst htk
        go_wp2
        all_goals go_roundg (65 - (r + 1))
        all_goals first
          | (have := HG.out; omega)
          | exact ⟨r + 1, l, A, c, by go_num, by omega, rfl, HO.out, HNIL.out, by rw [HST.out, HL.out], rfl, HF.out⟩
    · have hr2 : ¬ (r : Int) < 64 := by omega
      have e64 : r = 64 := by omega
      subst e64
      clear hf
      go_wp2
      go_ret
      rw [show sel G.tk = l from HL.out.symm]
      exact ⟨A, c, rfl, HF.out, own_slL HO.out HNIL.out, fun a ha => (own_block HO.out a.block (by rw [ha]; rfl)).1⟩
theorem rgids_calls {w : World} {b : Nat} {G : Gr} (h : RGM w b G) :
    Calls Tryz.prog 106 #[.pointer (some ⟨b, 0, none⟩)] w fun e w' => ∃ A c, e = .returned (.slice A (sel G.tk).length c) ∧ Fr No w w' ∧ SlL w' (.slice A (sel G.tk).length c) (sel G.tk) :=
  (rgids2_calls h).mono fun e w' ⟨A, c, h1, h2, h3, _⟩ => ⟨A, c, h1, h2, h3⟩

set_option maxRecDepth 100000 in
set_option maxHeartbeats 1000000 in
theorem rglen_calls {w : World} {b : Nat} {G : Gr} (h : RGM w b G) :
    Calls Tryz.prog 182 #[.pointer (some ⟨b, 0, none⟩)] w fun e w' => e = .returned (.int .i64 (G.cnt : Nat)) ∧ Fr No w w' := by
  rw [show G.cnt = (sel G.tk).length from rfl]
  have hl := sel_len G.tk
  go_enter Tryz.func182, Tryz.ntmps182
  go_wp2_with fail
  refine (rgids_calls h).mono ?_
  rintro e w1 ⟨A, c, rfl, hf, hs⟩
  clear hs
  go_wp2
  go_ret
  exact ⟨rfl, hf⟩

set_option maxRecDepth 100000 in
set_option maxHeartbeats 1000000 in
theorem rgvertex_calls {w : World} {b : Nat} {G : Gr} (h : RGM w b G) (v : Int) :
    Calls Tryz.prog 20 #[.pointer (some ⟨b, 0, none⟩), .int .i64 v] w fun e w' => e = .returned (.bool (decide (0 ≤ v ∧ v < G.n))) ∧ w = w' := by
  have c0 := h.c0
  clear h
  by_cases h0 : 0 ≤ v
  · have h0a : decide (0 ≤ v) = true := by simpa using h0
    by_cases h1 : v < G.n
    · have h2 : decide (0 ≤ v ∧ v < G.n) = true := by simp; omega
      rw [h2]
      go_enter Tryz.func20, Tryz.ntmps20
      go_wp2
      go_ret
      exact ⟨ret_bool (by simp <;> omega), rfl⟩
    · have h2 : decide (0 ≤ v ∧ v < G.n) = false := by simp; omega
      rw [h2]
      go_enter Tryz.func20, Tryz.ntmps20
      go_wp2
      go_ret
      exact ⟨ret_bool (by simp <;> omega), rfl⟩
  · have h2 : decide (0 ≤ v ∧ v < G.n) = false := by simp; omega
    have h0a : decide (0 ≤ v) = false := by simpa using h0
    rw [h2]
    go_enter Tryz.func20, Tryz.ntmps20
    go_wp2
    go_ret
    exact ⟨rfl, rfl⟩

set_option maxRecDepth 100000 in
set_option maxHeartbeats 1000000 in
theorem rgweight_calls (i : Int) (w : World) : Calls Tryz.prog 181 #[.int .i64 i] w fun e w' => e = .returned (.bool (decide (1 ≤ i ∧ i ≤ 4611686018427387904))) ∧ w = w' := by
  by_cases h0 : 1 ≤ i
  · have h0a : decide (1 ≤ i) = true := by simpa using h0
    by_cases h1 : i ≤ 4611686018427387904
    · have h2 : decide (1 ≤ i ∧ i ≤ 4611686018427387904) = true := by simp; omega
      rw [h2]
      go_enter Tryz.func181, Tryz.ntmps181
      go_wp2
      go_ret
      exact ⟨ret_bool (by simp <;> omega), rfl⟩
    · have h2 : decide (1 ≤ i ∧ i ≤ 4611686018427387904) = false := by simp; omega
      rw [h2]
      go_enter Tryz.func181, Tryz.ntmps181
      go_wp2
      go_ret
      exact ⟨ret_bool (by simp <;> omega), rfl⟩
  · have h2 : decide (1 ≤ i ∧ i ≤ 4611686018427387904) = false := by simp; omega
    have h0a : decide (1 ≤ i) = false := by simpa using h0
    rw [h2]
    go_enter Tryz.func181, Tryz.ntmps181
    go_wp2
    go_ret
    exact ⟨rfl, rfl⟩

set_option maxRecDepth 100000 in
set_option maxHeartbeats 1000000 in
theorem rgcode_calls {w : World} {b : Nat} {G : Gr} (h : RGM w b G) (id : Int) :
    Calls Tryz.prog 93 #[.pointer (some ⟨b, 0, none⟩), .int .i64 id] w fun e w' => e = .returned (.int .i64 (G.code id)) ∧ w = w' := by
  by_cases h0 : id < 0
  · have h0a : decide (id < 0) = true := by simpa using h0
    have e : G.code id = 1 := by unfold Gr.code; rw [if_neg (by omega)]
    rw [e]
    go_enter Tryz.func93, Tryz.ntmps93
    go_wp2
    go_ret
    exact ⟨rfl, rfl⟩
  · have h0a : decide (id < 0) = false := by simp; omega
    by_cases h1 : id < 64
    · obtain ⟨k, rfl⟩ := Int.eq_ofNat_of_zero_le (show 0 ≤ id by omega)
      have hk : k < 64 := by omega
      have k0 := h.tkc hk
      have h1a : ¬ (63 : Int) < (k : Nat) := by omega
      have e : G.code k = if G.tk k then 0 else 3 := by unfold Gr.code; rw [if_pos (by omega)]; rfl
      rw [e]
      clear h e
      cases htk : G.tk k with
      | true =>
        rw [htk] at k0
        go_enter Tryz.func93, Tryz.ntmps93
        go_wp2
        go_ret
        exact ⟨rfl, rfl⟩
      | false =>
        rw [htk] at k0
        go_enter Tryz.func93, Tryz.ntmps93
        go_wp2
        go_ret
        exact ⟨rfl, rfl⟩
    · have h1a : (63 : Int) < id := by omega
      have e : G.code id = 1 := by unfold Gr.code; rw [if_neg (by omega)]
      rw [e]
      go_enter Tryz.func93, Tryz.ntmps93
      go_wp2
      go_ret
      exact ⟨rfl, rfl⟩

def Gr.set (G : Gr) (k : Nat) (a : Arc4) (v : Bool) : Gr := ⟨G.n, G.most, fun i => if i = k then a else G.arc i, fun i => if i = k then v else G.tk i⟩
theorem Gr.rcell_tk (G : Gr) (k : Nat) (hk : k < 64) : G.rcell (2 + k) = .bool (G.tk k) := by
  unfold Gr.rcell
  rw [if_neg (by omega), if_neg (by omega), if_pos (by omega), show 2 + k - 2 = k by omega]
theorem Gr.rcell_arc (G : Gr) (k c : Nat) (hc : c < 4) : G.rcell (66 + k * 4 + c) = G.slot k c := by
  unfold Gr.rcell
  rw [if_neg (by omega), if_neg (by omega), if_neg (by omega), show (66 + k * 4 + c - 66) / 4 = k by omega, show (66 + k * 4 + c - 66) % 4 = c by omega]
theorem Gr.slot_set (G : Gr) (k j d : Nat) (a : Arc4) (v : Bool) (h : j ≠ k) : (G.set k a v).slot j d = G.slot j d := by
  unfold Gr.slot Gr.set
  simp only [h, if_false]
theorem upd_ne {V : Nat → Value} {p i : Nat} {v : Value} (h : i ≠ p) : upd V p v i = V i := if_neg h
theorem upd_eq {V : Nat → Value} {p i : Nat} {v : Value} (h : i = p) : upd V p v i = v := if_pos h
theorem Gr.rset_cell (G : Gr) (k : Nat) (hk : k < 64) (a : Arc4) (v : Bool) (i : Nat) :
    upd (upd (upd (upd (upd G.rcell (2 + k) (.bool v)) (66 + k * 4) (.int .i64 a.t)) (66 + k * 4 + 1) (.int .i64 a.h)) (66 + k * 4 + 2) (.int .i64 a.w)) (66 + k * 4 + 3) (.bool a.c) i = (G.set k a v).rcell i := by
  by_cases h66 : i < 66
  · rw [upd_ne (show i ≠ 66 + k * 4 + 3 by omega), upd_ne (show i ≠ 66 + k * 4 + 2 by omega), upd_ne (show i ≠ 66 + k * 4 + 1 by omega), upd_ne (show i ≠ 66 + k * 4 by omega)]
    by_cases h0 : i = 2 + k
    · rw [upd_eq h0, h0, Gr.rcell_tk _ k hk]
      exact congrArg Value.bool (if_pos rfl).symm
    · rw [upd_ne h0]
      by_cases h1 : i < 2
      · unfold Gr.rcell
        by_cases h2 : i = 0
        · rw [if_pos h2, if_pos h2]; rfl
        · rw [if_neg h2, if_neg h2, if_pos (show i = 1 by omega), if_pos (show i = 1 by omega)]; rfl
      · obtain ⟨j, rfl⟩ : ∃ j, i = 2 + j := ⟨i - 2, by omega⟩
        rw [Gr.rcell_tk _ j (by omega), Gr.rcell_tk _ j (by omega)]
        exact congrArg Value.bool (if_neg (show ¬ j = k by omega)).symm
  · obtain ⟨j, d, hd, rfl⟩ : ∃ j d, d < 4 ∧ i = 66 + j * 4 + d := ⟨(i - 66) / 4, (i - 66) % 4, Nat.mod_lt _ (by omega), by omega⟩
    rw [Gr.rcell_arc _ j d hd]
    by_cases e : j = k
    · subst e
      match d, hd with
      | 0, _ =>
        rw [upd_ne (by omega), upd_ne (by omega), upd_ne (by omega), upd_eq (by omega)]
        exact congrArg (fun z : Arc4 => Value.int .i64 z.t) (if_pos rfl).symm
      | 1, _ =>
        rw [upd_ne (by omega), upd_ne (by omega), upd_eq (by omega)]
        exact congrArg (fun z : Arc4 => Value.int .i64 z.h) (if_pos rfl).symm
      | 2, _ =>
        rw [upd_ne (by omega), upd_eq (by omega)]
        exact congrArg (fun z : Arc4 => Value.int .i64 z.w) (if_pos rfl).symm
      | 3, _ =>
        rw [upd_eq (by omega)]
        exact congrArg (fun z : Arc4 => Value.bool z.c) (if_pos rfl).symm
    · rw [Gr.slot_set _ _ _ _ _ _ e, upd_ne (by omega), upd_ne (by omega), upd_ne (by omega), upd_ne (by omega), upd_ne (by omega), Gr.rcell_arc _ j d hd]
theorem Gr.rone_cell (G : Gr) (k : Nat) (hk : k < 64) (c : Nat) (hc : c < 4) (v : Value) (G' : Gr) (h0 : G'.n = G.n) (h1 : G'.most = G.most) (h2 : G'.tk = G.tk) (h3 : ∀ j d, d < 4 → G'.slot j d = if j = k ∧ d = c then v else G.slot j d) (i : Nat) :
    upd G.rcell (66 + k * 4 + c) v i = G'.rcell i := by
  unfold upd Gr.rcell
  by_cases h66 : i < 66
  · rw [if_neg (by omega), h0, h1, h2, if_pos h66, if_pos h66]
  · rw [if_neg (show ¬ i = 0 by omega), if_neg (show ¬ i = 0 by omega), if_neg (show ¬ i = 1 by omega), if_neg (show ¬ i = 1 by omega), if_neg h66, if_neg h66, h3 _ _ (Nat.mod_lt _ (by omega))]
    by_cases e : i = 66 + k * 4 + c
    · rw [if_pos e, if_pos (by omega)]
    · rw [if_neg e, if_neg (by omega)]
theorem Gr.rshut_cell (G : Gr) (k : Nat) (hk : k < 64) (c : Bool) (i : Nat) : upd G.rcell (66 + k * 4 + 3) (.bool c) i = (G.shut k c).rcell i := by
  refine G.rone_cell k hk 3 (by omega) (.bool c) (G.shut k c) rfl rfl rfl (fun j d hd => ?_) i
  unfold Gr.slot Gr.shut
  by_cases e : j = k
  · subst e
    match d, hd with
    | 0, _ => simp
    | 1, _ => simp
    | 2, _ => simp
    | 3, _ => simp
  · simp [e]
theorem Gr.rwei_cell (G : Gr) (k : Nat) (hk : k < 64) (c : Int) (i : Nat) : upd G.rcell (66 + k * 4 + 2) (.int .i64 c) i = (G.wei k c).rcell i := by
  refine G.rone_cell k hk 2 (by omega) (.int .i64 c) (G.wei k c) rfl rfl rfl (fun j d hd => ?_) i
  unfold Gr.slot Gr.wei
  by_cases e : j = k
  · subst e
    match d, hd with
    | 0, _ => simp
    | 1, _ => simp
    | 2, _ => simp
    | 3, _ => simp
  · simp [e]

set_option maxRecDepth 100000 in
set_option maxHeartbeats 1000000 in
theorem rgdelete_calls {w : World} {b : Nat} {G : Gr} (h : RGM w b G) (id : Int) :
    Calls Tryz.prog 126 #[.pointer (some ⟨b, 0, none⟩), .int .i64 id] w fun e w' => e = .returned (.int .i64 (G.code id)) ∧ RGM w' b (G.rm id) ∧ Fr (One b) w w' := by
  have HC := hid (rgcode_calls h id)
  have H := hid h
  rcases G.code_cases id with ⟨e, h1⟩ | ⟨k, rfl, hk, htk, e⟩ | ⟨k, rfl, hk, htk, e⟩
  · have er : G.rm id = G := by unfold Gr.rm; rw [e]; rfl
    rw [e] at HC ⊢
    rw [er]
    clear h er e
    go_enter Tryz.func126, Tryz.ntmps126
    go_wp2_with fail
    refine HC.out.mono ?_
    rintro e w1 ⟨rfl, rfl⟩
    go_wp2
    go_ret
    exact ⟨rfl, H.out, Fr.refl _ _⟩
  · have er : G.rm k = G := by unfold Gr.rm; rw [e]; rfl
    rw [e] at HC ⊢
    rw [er]
    clear h er e
    go_enter Tryz.func126, Tryz.ntmps126
    go_wp2_with fail
    refine HC.out.mono ?_
    rintro e w1 ⟨rfl, rfl⟩
    go_wp2
    go_ret
    exact ⟨rfl, H.out, Fr.refl _ _⟩
  · have er : G.rm k = G.set k ⟨0, 0, 0, false⟩ false := by unfold Gr.rm; rw [e]; rfl
    rw [e] at HC ⊢
    rw [er]
    have z4 := h.tkc hk
    have z0 := h.arc hk 0 (by omega)
    have z1 := h.arc hk 1 (by omega)
    have z2 := h.arc hk 2 (by omega)
    have z3 := h.arc hk 3 (by omega)
    have zf := fun i => Blk.frozen h i
    have hk2 : (k : Int) < 64 := by omega
    clear h er e
    go_enter Tryz.func126, Tryz.ntmps126
    go_wp2_with fail
    refine HC.out.mono ?_
    rintro e w1 ⟨rfl, rfl⟩
    rw [Nat.add_zero] at z0
    go_wp2
    go_ret
    exact ⟨rfl, Blk.congr (((((Blk.setCell H.out (2 + k) (.bool false)).setCell (66 + k * 4) (.int .i64 0)).setCell (66 + k * 4 + 1) (.int .i64 0)).setCell (66 + k * 4 + 2) (.int .i64 0)).setCell (66 + k * 4 + 3) (.bool false)) (fun i _ => G.rset_cell k hk ⟨0, 0, 0, false⟩ false i),
      (((((Fr.refl _ _).set1 _ _).set1 _ _).set1 _ _).set1 _ _).set1 _ _⟩

set_option maxRecDepth 100000 in
set_option maxHeartbeats 1000000 in
theorem rgturn_calls {w : World} {b : Nat} {G : Gr} (h : RGM w b G) (id : Int) (c : Bool) :
    Calls Tryz.prog 127 #[.pointer (some ⟨b, 0, none⟩), .int .i64 id, .bool c] w fun e w' => e = .returned (.int .i64 (G.tcode id c)) ∧ RGM w' b (G.tn id c) ∧ Fr (One b) w w' := by
  have HC := hid (rgcode_calls h id)
  have H := hid h
  rcases G.code_cases id with ⟨e, h1⟩ | ⟨k, rfl, hk, htk, e⟩ | ⟨k, rfl, hk, htk, e⟩
  · have ec : G.tcode id c = 1 := by unfold Gr.tcode; rw [e]; rfl
    have er : G.tn id c = G := by unfold Gr.tn; rw [ec]; rfl
    rw [e] at HC
    rw [er, ec]
    clear h er ec e
    go_enter Tryz.func127, Tryz.ntmps127
    go_wp2_with fail
    refine HC.out.mono ?_
    rintro e w1 ⟨rfl, rfl⟩
    go_wp2
    go_ret
    exact ⟨rfl, H.out, Fr.refl _ _⟩
  · have ec : G.tcode k c = 3 := by unfold Gr.tcode; rw [e]; rfl
    have er : G.tn k c = G := by unfold Gr.tn; rw [ec]; rfl
    rw [e] at HC
    rw [er, ec]
    clear h er ec e
    go_enter Tryz.func127, Tryz.ntmps127
    go_wp2_with fail
    refine HC.out.mono ?_
    rintro e w1 ⟨rfl, rfl⟩
    go_wp2
    go_ret
    exact ⟨rfl, H.out, Fr.refl _ _⟩
  · have z3 : w.cell? ⟨b, 66 + k * 4 + 3, none⟩ = some (.bool (G.arc k).c) := h.arc hk 3 (by omega)
    have zf := fun i => Blk.frozen h i
    have hk2 : (k : Int) < 64 := by omega
    by_cases hcc : (G.arc k).c = c
    · have ec : G.tcode k c = 5 := by unfold Gr.tcode; rw [e, if_pos rfl]; exact if_pos hcc
      have er : G.tn k c = G := by unfold Gr.tn; rw [ec]; rfl
      rw [e] at HC
      rw [er, ec]
      rw [hcc] at z3
      clear h er ec e
      go_enter Tryz.func127, Tryz.ntmps127
      go_wp2_with fail
      refine HC.out.mono ?_
      rintro e w1 ⟨rfl, rfl⟩
      go_wp2
      go_ret
      exact ⟨rfl, H.out, Fr.refl _ _⟩
    · have ec : G.tcode k c = 0 := by unfold Gr.tcode; rw [e, if_pos rfl]; exact if_neg hcc
      have er : G.tn k c = G.shut k c := by unfold Gr.tn; rw [ec]; rfl
      have hb : ((G.arc k).c == c) = false := by simpa using hcc
      rw [e] at HC
      rw [er, ec]
      clear h er ec e hcc
      go_enter Tryz.func127, Tryz.ntmps127
      go_wp2_with fail
      refine HC.out.mono ?_
      rintro e w1 ⟨rfl, rfl⟩
      go_wp2
      go_ret
      exact ⟨rfl, Blk.congr (Blk.setCell H.out (66 + k * 4 + 3) (.bool c)) (fun i _ => G.rshut_cell k hk c i), (Fr.refl _ _).set1 _ _⟩

set_option maxRecDepth 100000 in
set_option maxHeartbeats 1000000 in
theorem rgweigh_calls {w : World} {b : Nat} {G : Gr} (h : RGM w b G) (id x : Int) :
    Calls Tryz.prog 128 #[.pointer (some ⟨b, 0, none⟩), .int .i64 id, .int .i64 x] w fun e w' => e = .returned (.int .i64 (G.wcode id x)) ∧ RGM w' b (G.wt id x) ∧ Fr (One b) w w' := by
  have HC := hid (rgcode_calls h id)
  have H := hid h
  by_cases hx : 1 ≤ x ∧ x ≤ 4611686018427387904
  · have hxd : decide (1 ≤ x ∧ x ≤ 4611686018427387904) = true := decide_eq_true hx
    rcases G.code_cases id with ⟨e, h1⟩ | ⟨k, rfl, hk, htk, e⟩ | ⟨k, rfl, hk, htk, e⟩
    · have ec : G.wcode id x = 1 := by unfold Gr.wcode; rw [if_pos hx, e]
      have er : G.wt id x = G := by unfold Gr.wt; rw [ec]; rfl
      rw [e] at HC
      rw [er, ec]
      clear h er ec e hx
      go_enter Tryz.func128, Tryz.ntmps128
      go_wp2_with fail
      refine (rgweight_calls x _).mono ?_
      rintro e w1 ⟨rfl, rfl⟩
      rw [hxd]
      go_wp2_with fail
      refine HC.out.mono ?_
      rintro e w1 ⟨rfl, rfl⟩
      go_wp2
      go_ret
      exact ⟨rfl, H.out, Fr.refl _ _⟩
    · have ec : G.wcode k x = 3 := by unfold Gr.wcode; rw [if_pos hx, e]
      have er : G.wt k x = G := by unfold Gr.wt; rw [ec]; rfl
      rw [e] at HC
      rw [er, ec]
      clear h er ec e hx
      go_enter Tryz.func128, Tryz.ntmps128
      go_wp2_with fail
      refine (rgweight_calls x _).mono ?_
      rintro e w1 ⟨rfl, rfl⟩
      rw [hxd]
      go_wp2_with fail
      refine HC.out.mono ?_
      rintro e w1 ⟨rfl, rfl⟩
      go_wp2
      go_ret
      exact ⟨rfl, H.out, Fr.refl _ _⟩
    · have ec : G.wcode k x = 0 := by unfold Gr.wcode; rw [if_pos hx, e]
      have er : G.wt k x = G.wei k x := by unfold Gr.wt; rw [ec]; rfl
      have z3 : w.cell? ⟨b, 66 + k * 4 + 2, none⟩ = some (.int .i64 (G.arc k).w) := h.arc hk 2 (by omega)
      have zf := fun i => Blk.frozen h i
      have hk2 : (k : Int) < 64 := by omega
      rw [e] at HC
      rw [er, ec]
      clear h er ec e hx
      go_enter Tryz.func128, Tryz.ntmps128
      go_wp2_with fail
      refine (rgweight_calls x _).mono ?_
      rintro e w1 ⟨rfl, rfl⟩
      rw [hxd]
      go_wp2_with fail
      refine HC.out.mono ?_
      rintro e w1 ⟨rfl, rfl⟩
      go_wp2
      go_ret
      exact ⟨rfl, Blk.congr (Blk.setCell H.out (66 + k * 4 + 2) (.int .i64 x)) (fun i _ => G.rwei_cell k hk x i), (Fr.refl _ _).set1 _ _⟩
  · have hxd : decide (1 ≤ x ∧ x ≤ 4611686018427387904) = false := decide_eq_false hx
    have ec : G.wcode id x = 1 := by unfold Gr.wcode; rw [if_neg hx]
    have er : G.wt id x = G := by unfold Gr.wt; rw [ec]; rfl
    rw [er, ec]
    clear h er ec hx
    go_enter Tryz.func128, Tryz.ntmps128
    go_wp2_with fail
    refine (rgweight_calls x _).mono ?_
    rintro e w1 ⟨rfl, rfl⟩
    rw [hxd]
    go_wp2
    go_ret
    exact ⟨rfl, H.out, Fr.refl _ _⟩

end Go.Proofs.YtoepbhacpidcbaaGreatDoor

/- Of the open arcs of a graph the least: the program's, of a graph in memory; the document's, walked; the right entry in general. -/
set_option linter.unusedVariables false
set_option linter.unusedSimpArgs false
namespace Go.Proofs.YtoepbhacpidcbaaGreatDoor
open Go.RowKit Go.Deep

def toId (i : Nat) : Id64 := if h : i < 64 then ⟨(i : Int), by omega⟩ else id0
theorem toId_val {i : Nat} (h : i < 64) : (toId i).1 = (i : Int) := by unfold toId; rw [dif_pos h]
/-- The places of which something holds, as numbers of places. -/
def selI (p : Nat → Bool) : List Id64 := ((List.range 64).filter p).map toId
theorem selI_val (p : Nat → Bool) : (selI p).map (fun z : Id64 => z.1) = sel p := by
  unfold selI sel
  rw [List.map_map]
  refine List.map_congr_left fun i hi => ?_
  exact toId_val (by simpa using (List.mem_filter.1 hi).1)
theorem selI_len (p : Nat → Bool) : (selI p).length = (sel p).length := by rw [← selI_val p, List.length_map]
theorem selI_get (p : Nat → Bool) (j : Nat) (hj : j < (sel p).length) : ((selI p)[j]?.getD id0).1 = (sel p).getD j 0 := by
  have hj' : j < (selI p).length := by rw [selI_len]; exact hj
  rw [← selI_val p, List.getD, List.getElem?_map, List.getElem?_eq_getElem hj']; rfl

def rstep (arc : Nat → Arc4) (u v : Int) (acc : Int × Int) (z : Int) : Int × Int :=
  if (arc z.toNat).t = u ∧ (arc z.toNat).h = v ∧ (arc z.toNat).c = false ∧ (arc z.toNat).w < acc.1 then ((arc z.toNat).w, z) else acc
/-- The least open arc from one vertex to another one: its weight, its place. -/
def Gr.best (G : Gr) (u v : Int) : Int × Int := (sel G.tk).foldl (rstep G.arc u v) (4611686018427387906, -1)
def Gr.outs (G : Gr) (u : Int) : Nat → Bool := fun i => G.tk i && decide ((G.arc i).t = u)
theorem best_aux (G : Gr) (u v : Int) : ∀ (l : List Nat), (∀ i ∈ l, i < 64) → ∀ acc, ((l.filter (G.outs u)).map toId).foldl (bestStep G.arc v) acc = ((l.filter G.tk).map (fun i : Nat => (i : Int))).foldl (rstep G.arc u v) acc := by
  intro l
  induction l with
  | nil => intro _ acc; rfl
  | cons i l ih =>
    intro hl acc
    have hi := hl i (by simp)
    have ih' := ih (fun j hj => hl j (by simp [hj]))
    have hbs : bestStep G.arc v acc (toId i) = if (G.arc i).h = v ∧ (G.arc i).c = false ∧ (G.arc i).w < acc.1 then ((G.arc i).w, (i : Int)) else acc := by
      unfold bestStep; rw [toId_val hi]; rfl
    have hrs : rstep G.arc u v acc (i : Nat) = if (G.arc i).t = u ∧ (G.arc i).h = v ∧ (G.arc i).c = false ∧ (G.arc i).w < acc.1 then ((G.arc i).w, (i : Int)) else acc := rfl
    cases htk : G.tk i with
    | false =>
      rw [List.filter_cons_of_neg (by simp [Gr.outs, htk]), List.filter_cons_of_neg (by simp [htk])]
      exact ih' acc
    | true =>
      by_cases ht : (G.arc i).t = u
      · rw [List.filter_cons_of_pos (by simp [Gr.outs, htk, ht]), List.filter_cons_of_pos htk, List.map_cons, List.map_cons, List.foldl_cons, List.foldl_cons, ih', hbs, hrs]
        congr 1
        by_cases hc : (G.arc i).h = v ∧ (G.arc i).c = false ∧ (G.arc i).w < acc.1
        · rw [if_pos hc, if_pos ⟨ht, hc⟩]
        · rw [if_neg hc, if_neg (fun h => hc h.2)]
      · rw [List.filter_cons_of_neg (by simp [Gr.outs, ht]), List.filter_cons_of_pos htk, List.map_cons, List.foldl_cons, ih', hrs, if_neg (fun h => ht h.1)]
theorem best_eq (G : Gr) (u v : Int) : bestOf G.arc v (selI (G.outs u)) = G.best u v := best_aux G u v (List.range 64) (fun i hi => by simpa using hi) _

theorem foldl_inv {α β : Type} (P : β → Prop) (f : β → α → β) : ∀ (l : List α), (∀ b, P b → ∀ a ∈ l, P (f b a)) → ∀ b, P b → P (l.foldl f b) := by
  intro l
  induction l with
  | nil => intro _ b hb; exact hb
  | cons a l ih => intro h b hb; exact ih (fun b hb c hc => h b hb c (by simp [hc])) _ (h b hb a (by simp))
/-- The least open arc is one, or there is none. -/
theorem Gr.best_is (G : Gr) (u v : Int) : G.best u v = (4611686018427387906, -1) ∨ ∃ k : Nat, k < 64 ∧ G.tk k = true ∧ (G.arc k).t = u ∧ (G.arc k).h = v ∧ (G.arc k).c = false ∧ (G.arc k).w < 4611686018427387906 ∧ G.best u v = ((G.arc k).w, (k : Int)) := by
  refine foldl_inv (fun acc => acc = (4611686018427387906, -1) ∨ ∃ k : Nat, k < 64 ∧ G.tk k = true ∧ (G.arc k).t = u ∧ (G.arc k).h = v ∧ (G.arc k).c = false ∧ (G.arc k).w < 4611686018427387906 ∧ acc = ((G.arc k).w, (k : Int))) (rstep G.arc u v) (sel G.tk) ?_ _ (.inl rfl)
  intro acc hacc z hz
  obtain ⟨k, hk, htk, rfl⟩ := (sel_mem _ _).1 hz
  unfold rstep
  by_cases hc : (G.arc ((k : Nat) : Int).toNat).t = u ∧ (G.arc ((k : Nat) : Int).toNat).h = v ∧ (G.arc ((k : Nat) : Int).toNat).c = false ∧ (G.arc ((k : Nat) : Int).toNat).w < acc.1
  · rw [if_pos hc]
    have hlt : acc.1 ≤ 4611686018427387906 := by
      rcases hacc with rfl | ⟨j, _, _, _, _, _, h, rfl⟩
      · exact Int.le_refl _
      · exact Int.le_of_lt h
    exact .inr ⟨k, hk, htk, hc.1, hc.2.1, hc.2.2.1, by have := hc.2.2.2; simp at this; omega, rfl⟩
  · rw [if_neg hc]; exact hacc
theorem Gr.best_le (G : Gr) (u v : Int) : (G.best u v).1 ≤ 4611686018427387906 := by
  rcases G.best_is u v with h | ⟨k, _, _, _, _, _, h1, h⟩
  · rw [h]; exact Int.le_refl _
  · rw [h]; exact Int.le_of_lt h1
theorem foldl_le (arc : Nat → Arc4) (u v : Int) : ∀ (l : List Int) (acc : Int × Int), (l.foldl (rstep arc u v) acc).1 ≤ acc.1 := by
  intro l
  induction l with
  | nil => intro acc; exact Int.le_refl _
  | cons z l ih =>
    intro acc
    refine Int.le_trans (ih _) ?_
    unfold rstep
    split
    · rename_i h; exact Int.le_of_lt h.2.2.2
    · exact Int.le_refl _
theorem foldl_least (arc : Nat → Arc4) (u v : Int) : ∀ (l : List Int) (acc : Int × Int) (z : Int), z ∈ l → (arc z.toNat).t = u → (arc z.toNat).h = v → (arc z.toNat).c = false → (l.foldl (rstep arc u v) acc).1 ≤ (arc z.toNat).w := by
  intro l
  induction l with
  | nil => intro acc z hz; cases hz
  | cons y l ih =>
    intro acc z hz h1 h2 h3
    rcases List.mem_cons.1 hz with rfl | hz
    · refine Int.le_trans (foldl_le arc u v l _) ?_
      unfold rstep
      by_cases hc : (arc z.toNat).w < acc.1
      · rw [if_pos ⟨h1, h2, h3, hc⟩]; exact Int.le_refl _
      · rw [if_neg (fun h => hc h.2.2.2)]; omega
    · exact ih _ z hz h1 h2 h3
theorem Gr.best_least (G : Gr) {k : Nat} (hk : k < 64) (htk : G.tk k = true) (hc : (G.arc k).c = false) : (G.best (G.arc k).t (G.arc k).h).1 ≤ (G.arc k).w :=
  foldl_least G.arc _ _ (sel G.tk) _ (k : Nat) ((sel_mem _ _).2 ⟨k, hk, htk, rfl⟩) rfl rfl hc
theorem GMem.arcs {w : World} {L : GLoc} {G : Gr} (h : GMem w L G) : ArcsAt w L.b G.arc := fun i hi => by
  have key : ∀ c, c < 4 → w.cell? ⟨L.b, i * 5 + c, none⟩ = some (G.slot i c) := fun c hc => by
    rw [h.blk.cell (by omega), Gr.slot_cell G L.ba i c hi (by omega)]
  exact ⟨key 0 (by omega), key 1 (by omega), key 2 (by omega), key 3 (by omega)⟩
theorem outs_lst (G : Gr) (u : Nat) : sel (G.outs u) = G.lst (2 * u) := by
  unfold Gr.lst
  refine sel_congr fun i _ => ?_
  unfold Gr.outs Gr.at
  rw [if_pos (by omega), show 2 * u / 2 = u by omega]
theorem GMem.out {w : World} {L : GLoc} {G : Gr} (h : GMem w L G) (u : Int) : OutAt w.heap.size w L.b u (selI (G.outs u)) := by
  have hn := h.ok.n2
  have h0 : w.cell? ⟨L.b, 320, none⟩ = some (.slice (some ⟨L.ba, 0, none⟩) G.n G.n) := h.blk.cell (i := 320) (by omega)
  refine ⟨h.blk.lt, ?_, some ⟨L.ba, 0, none⟩, G.n, G.n, h0, by omega, ?_⟩
  · rw [selI_len]; have := sel_len (G.outs u); omega
  · by_cases hu : 0 ≤ u ∧ u < G.n
    · obtain ⟨k, rfl⟩ := Int.eq_ofNat_of_zero_le hu.1
      have hk : k < G.n := by omega
      have hl : (selI (G.outs (k : Nat))).length = (G.lst (2 * k)).length := by rw [selI_len, outs_lst]
      have hc : w.cell? ⟨L.ba, 2 * k, none⟩ = some (ilv (G.lst (2 * k)) (L.c (2 * k)) (L.g (2 * k))) := h.at_.cell (by omega)
      have hls := h.ls (2 * k) (by omega)
      refine .inr ⟨L.ba, k, L.c (2 * k), (L.g (2 * k)).map (fun g => ⟨g, 0, none⟩), rfl, rfl, hk, h.at_.lt, ?_, ?_⟩
      · rw [show k * 2 = 2 * k by omega, hc, hl]
        cases hg : L.g (2 * k) with
        | none =>
          rw [hg] at hls
          obtain ⟨e1, e2⟩ := hls
          rw [e1, e2]; rfl
        | some g => rfl
      · cases hg : L.g (2 * k) with
        | none =>
          rw [hg] at hls
          obtain ⟨e1, e2⟩ := hls
          refine .inl ⟨?_, ?_⟩
          · rw [hl, e1, e2]; rfl
          · exact List.length_eq_zero_iff.1 (by rw [hl, e1]; rfl)
        | some g =>
          rw [hg] at hls
          obtain ⟨V, h1, h2, h3, h4⟩ := hls
          refine .inr ⟨g, 0, L.c (2 * k), rfl, h1.lt, fun j hj => ?_⟩
          rw [hl] at hj
          rw [Nat.zero_add, selI_get _ _ (by rw [outs_lst]; exact hj), outs_lst, ← h4 j hj]
          exact h1.cell (by omega)
    · refine .inl ⟨decide_eq_false hu, ?_⟩
      refine List.length_eq_zero_iff.1 ?_
      rw [selI_len]
      refine List.length_eq_zero_iff.2 (List.eq_nil_iff_forall_not_mem.2 fun z hz => ?_)
      obtain ⟨i, hi, hp, _⟩ := (sel_mem _ _).1 hz
      unfold Gr.outs at hp
      rw [Bool.and_eq_true] at hp
      have := h.ok.arc i hi hp.1
      have e : (G.arc i).t = u := by simpa using hp.2
      omega
theorem SlL.ints' {w : World} {A : Option Addr} {c : Nat} {l : List Int} (h : SlL w (.slice A l.length c) l) : IntsF w A l.length (fun j => l.getD j 0) := fun h0 => by
  rcases h with ⟨e, _⟩ | ⟨b, off, c', _, e, hc⟩
  · rw [e] at h0; exact absurd h0 (Nat.lt_irrefl _)
  · simp at e
    exact ⟨b, off, e.1, hc⟩

set_option maxRecDepth 100000 in
set_option maxHeartbeats 4000000 in
theorem rgbest_calls {w : World} {b : Nat} {G : Gr} (h : RGM w b G) (u v : Int) :
    Calls Tryz.prog 78 #[.pointer (some ⟨b, 0, none⟩), .int .i64 u, .int .i64 v] w fun e w' => e = .returned (.tuple #[.int .i64 (G.best u v).1, .int .i64 (G.best u v).2]) ∧ Fr No w w' := by
  have hlen := sel_len G.tk
  have hst : ∀ i, i < (sel G.tk).length → ((sel G.tk).take (i + 1)).foldl (rstep G.arc u v) (4611686018427387906, -1) = rstep G.arc u v (((sel G.tk).take i).foldl (rstep G.arc u v) (4611686018427387906, -1)) ((sel G.tk).getD i 0) := fun i hi => by
    rw [List.take_succ_eq_append_getElem hi, List.foldl_append]
    show rstep G.arc u v _ ((sel G.tk)[i]) = _
    rw [List.getD, List.getElem?_eq_getElem hi]; rfl
  have hmem : ∀ i, i < (sel G.tk).length → ∃ k : Nat, k < 64 ∧ (sel G.tk).getD i 0 = (k : Nat) := fun i hi => by
    have : (sel G.tk).getD i 0 ∈ sel G.tk := by rw [List.getD, List.getElem?_eq_getElem hi]; exact List.getElem_mem hi
    obtain ⟨k, h1, _, h3⟩ := (sel_mem _ _).1 this
    exact ⟨k, h1, h3⟩
  have hend : G.best u v = ((sel G.tk).take (sel G.tk).length).foldl (rstep G.arc u v) (4611686018427387906, -1) := by rw [List.take_length]; rfl
  obtain ⟨N, hN⟩ : ∃ N, (sel G.tk).length = N := ⟨_, rfl⟩
  obtain ⟨B, hB⟩ : ∃ B : Int × Int, G.best u v = B := ⟨_, rfl⟩
  rw [hN] at hlen hst hmem hend
  rw [hB] at hend ⊢
  have HST := hid hst
  have HMEM := hid hmem
  have HEND := hid hend
  have HN := hid hN
  have H := hid h
  have hbl := Blk.lt h
  clear h hst hmem hend hN hB
  go_enter Tryz.func78, Tryz.ntmps78
  go_wp2_with fail
  refine (rgids_calls H.out).mono ?_
  rintro e w1 ⟨A, c, rfl, hf, hs⟩
  have HI := hid (SlL.ints' hs)
  have HF1 := hid hf
  rw [HN.out] at HI ⊢
  clear hs hf
  go_wp2
  go_loopg [8, 9, 11] N (fun g p q r wr => ∃ (i : Nat), p = .int .i64 (((sel G.tk).take i).foldl (rstep G.arc u v) (4611686018427387906, -1)).1 ∧ q = .int .i64 (((sel G.tk).take i).foldl (rstep G.arc u v) (4611686018427387906, -1)).2 ∧ r = .int .i64 i ∧ i ≤ N ∧ g = N - i ∧ Fr No w1 wr)
  case atStart => exact ⟨0, rfl, rfl, rfl, by omega, rfl, Fr.refl _ _⟩
  case round =>
    obtain ⟨i, rfl, rfl, rfl, hi, hg, hf⟩ := hrel
    have HG := hid hg
    have HF := hid hf
    have hsz := hf.size
    clear hg hf
    by_cases hlt : i < N
    · have hst := HST.out i hlt
      obtain ⟨k, hk, hz⟩ := HMEM.out i hlt
      rw [hz] at hst
      obtain ⟨bA, off, rfl, hc⟩ := HI.out (by omega)
      have q0 : wr.cell? ⟨bA, off + i, none⟩ = some (.int .i64 ((sel G.tk).getD i 0)) := HF.out.cell_some (hc i hlt) (fun h => h)
      rw [hz] at q0
      have hbA : bA < wr.heap.size := cell_lt q0
      have HR := hid ((H.out.no HF1.out).no HF.out)
      have z0 : wr.cell? ⟨b, 66 + k * 4, none⟩ = some (.int .i64 (G.arc k).t) := HR.out.arc hk 0 (by omega)
      have z1 : wr.cell? ⟨b, 66 + k * 4 + 1, none⟩ = some (.int .i64 (G.arc k).h) := HR.out.arc hk 1 (by omega)
      have z2 : wr.cell? ⟨b, 66 + k * 4 + 2, none⟩ = some (.int .i64 (G.arc k).w) := HR.out.arc hk 2 (by omega)
      have z3 : wr.cell? ⟨b, 66 + k * 4 + 3, none⟩ = some (.bool (G.arc k).c) := HR.out.arc hk 3 (by omega)
      have hbw : b < wr.heap.size := Blk.lt HR.out
      have hk2 : (k : Int) < 64 := by omega
      have hlt2 : (i : Int) < N := by omega
      obtain ⟨acc, hacc⟩ : ∃ acc, ((sel G.tk).take i).foldl (rstep G.arc u v) (4611686018427387906, -1) = acc := ⟨_, rfl⟩
      rw [hacc] at hst ⊢
      have hst2 : ((sel G.tk).take (i + 1)).foldl (rstep G.arc u v) (4611686018427387906, -1) = if (G.arc k).t = u ∧ (G.arc k).h = v ∧ (G.arc k).c = false ∧ (G.arc k).w < acc.1 then ((G.arc k).w, (k : Int)) else acc := hst
      obtain ⟨⟨at_, ah, aw, ac⟩, har⟩ : ∃ y, G.arc k = y := ⟨_, rfl⟩
      rw [har] at z0 z1 z2 z3 hst2
      simp only at z0 z1 z2 z3 hst2
      have HS2 := hid hst2
      have HZ := hid hz
      have HC := hid hc
      clear hst hst2 hacc har HR hz hc
      obtain ⟨ca, cb⟩ := acc
      simp only at HS2 ⊢
      go_wp2_with fail
      go_region
      have O5 := heap_new wr (Obj.cells #[Value.int IntKind.i64 at_, Value.int IntKind.i64 ah, Value.int IntKind.i64 aw, Value.bool ac] 49)
      have F5 : Fr No wr (wr.alloc (Obj.cells #[Value.int IntKind.i64 at_, Value.int IntKind.i64 ah, Value.int IntKind.i64 aw, Value.bool ac] 49)).drew := ((Fr.refl No wr).alloc _).drew
      have y0 := cell_of O5 0
      have y1 := cell_of O5 1
      have y2 := cell_of O5 2
      have y3 := cell_of O5 3
      rw [← World.cell?_drew] at y0 y1 y2 y3
      generalize (wr.alloc (Obj.cells #[Value.int IntKind.i64 at_, Value.int IntKind.i64 ah, Value.int IntKind.i64 aw, Value.bool ac] 49)).drew = W5 at y0 y1 y2 y3 F5 ⊢
      have x0 := F5.cell_some q0 (fun h => h)
      have HF5 := hid (HF.out.trans F5)
      clear F5 O5 q0 z0 z1 z2 z3 HF
      simp at y0 y1 y2 y3
      by_cases p1 : at_ = u
      · replace p1 := p1.symm; subst p1
        by_cases p2 : ah = v
        · replace p2 := p2.symm; subst p2
          cases ac with
          | true =>
            have hn : ((sel G.tk).take (i + 1)).foldl (rstep G.arc u v) (4611686018427387906, -1) = (ca, cb) := by rw [HS2.out, if_neg (fun h => by cases h.2.2.1)]
            have HN2 := hid hn
            clear hn
            go_wp2
            all_goals go_roundg (N - (i + 1))
            all_goals first
              | (have := HG.out; omega)
              | exact ⟨i + 1, by rw [HN2.out], by rw [HN2.out], by go_num, by omega, rfl, HF5.out⟩
          | false =>
            by_cases p3 : aw < ca
            · have hn : ((sel G.tk).take (i + 1)).foldl (rstep G.arc u v) (4611686018427387906, -1) = (aw, (k : Int)) := by rw [HS2.out, if_pos ⟨rfl, rfl, rfl, p3⟩]
              have HN2 := hid hn
              clear hn
              go_wp2
              all_goals go_roundg (N - (i + 1))
              all_goals first
                | (have := HG.out; omega)
                | exact ⟨i + 1, by rw [HN2.out], by rw [HN2.out], by go_num, by omega, rfl, HF5.out⟩
            · have p3' : decide (aw < ca) = false := by simp; omega
              have hn : ((sel G.tk).take (i + 1)).foldl (rstep G.arc u v) (4611686018427387906, -1) = (ca, cb) := by rw [HS2.out, if_neg (fun h => p3 h.2.2.2)]
              have HN2 := hid hn
              clear hn
              go_wp2
              all_goals go_roundg (N - (i + 1))
              all_goals first
                | (have := HG.out; omega)
                | exact ⟨i + 1, by rw [HN2.out], by rw [HN2.out], by go_num, by omega, rfl, HF5.out⟩
        · have p2' : (ah == v) = false := by simpa using p2
          have hn : ((sel G.tk).take (i + 1)).foldl (rstep G.arc u v) (4611686018427387906, -1) = (ca, cb) := by rw [HS2.out, if_neg (fun h => p2 h.2.1)]
          have HN2 := hid hn
          clear hn
          go_wp2
          all_goals go_roundg (N - (i + 1))
          all_goals first
            | (have := HG.out; omega)
            | exact ⟨i + 1, by rw [HN2.out], by rw [HN2.out], by go_num, by omega, rfl, HF5.out⟩
      · have p1' : (at_ == u) = false := by simpa using p1
        have hn : ((sel G.tk).take (i + 1)).foldl (rstep G.arc u v) (4611686018427387906, -1) = (ca, cb) := by rw [HS2.out, if_neg (fun h => p1 h.1)]
        have HN2 := hid hn
        clear hn
        go_wp2
        all_goals go_roundg (N - (i + 1))
        all_goals first
          | (have := HG.out; omega)
          | exact ⟨i + 1, by rw [HN2.out], by rw [HN2.out], by go_num, by omega, rfl, HF5.out⟩
    · have e : i = N := by omega
      subst e
      go_wp2
      go_ret2
      rw [← HEND.out]
      exact ⟨rfl, HF1.out.trans HF.out⟩

/-- What the document has, by way of one of the first vertices by rank: the least sum, and its vertex. -/
def Ix.rl (x : Ix) (u v : Int) : Nat → Int × Int
  | 0 => (4611686018427387906, -1)
  | k + 1 => if x.sum2 u v k < (x.rl u v k).1 then (x.sum2 u v k, (x.by_ k : Nat)) else x.rl u v k
theorem Ix.rl_is (x : Ix) (u v : Int) : ∀ k, x.rl u v k = (4611686018427387906, -1) ∨ (0 ≤ (x.rl u v k).2 ∧ (x.rl u v k).1 < 4611686018427387906) := by
  intro k
  induction k with
  | zero => exact .inl rfl
  | succ k ih =>
    unfold Ix.rl
    split
    · rename_i h
      refine .inr ⟨by show (0 : Int) ≤ (x.by_ k : Nat); omega, ?_⟩
      show x.sum2 u v k < _
      rcases ih with e | e
      · rw [e] at h; exact h
      · omega
    · exact ih
theorem Ix.bestTo_rl (x : Ix) (u v : Int) (b : En) (hb : b.w ≤ 4611686018427387906) : ∀ k, x.bestTo u v b k = if (x.rl u v k).1 < b.w then ⟨(x.rl u v k).1, -1, (x.rl u v k).2⟩ else b := by
  intro k
  induction k with
  | zero => rw [Ix.bestTo, Ix.rl, if_neg (by show ¬ (4611686018427387906 : Int) < b.w; omega)]
  | succ k ih =>
    rw [Ix.bestTo, ih, Ix.rl]
    obtain ⟨s, hs⟩ : ∃ s, x.sum2 u v k = s := ⟨_, rfl⟩
    obtain ⟨r, hr⟩ : ∃ r, x.rl u v k = r := ⟨_, rfl⟩
    rw [hs, hr]
    by_cases h1 : r.1 < b.w
    · rw [if_pos h1]
      by_cases h2 : s < r.1
      · rw [if_pos h2, if_pos h2, if_pos (show s < b.w by omega)]
      · rw [if_neg h2, if_neg h2, if_pos h1]
    · rw [if_neg h1]
      by_cases h3 : s < b.w
      · rw [if_pos h3, if_pos (show s < r.1 by omega), if_pos h3]
      · rw [if_neg h3]
        by_cases h2 : s < r.1
        · rw [if_pos h2, if_neg h3]
        · rw [if_neg h2, if_neg h1]
/-- The document's way to say it. -/
def Ix.rbest (x : Ix) (u v : Int) (d : Int × Int) : En :=
  if x.two u v = true then
    (if 0 ≤ d.2 ∧ d.1 ≤ (x.rl u v (min (x.rk u.toNat) (x.rk v.toNat))).1 then ⟨d.1, d.2, -1⟩
     else if 0 ≤ (x.rl u v (min (x.rk u.toNat) (x.rk v.toNat))).2 then ⟨(x.rl u v (min (x.rk u.toNat) (x.rk v.toNat))).1, -1, (x.rl u v (min (x.rk u.toNat) (x.rk v.toNat))).2⟩ else En.none)
  else En.none
theorem Ix.rbest_eq (x : Ix) (u v : Int) (d : Int × Int) (hd : d.1 ≤ 4611686018427387906) : x.best u v d = x.rbest u v d := by
  unfold Ix.best Ix.rbest
  cases ht : x.two u v with
  | false => rfl
  | true =>
    rw [if_pos rfl, if_pos rfl]
    have hr := x.rl_is u v (min (x.rk u.toNat) (x.rk v.toNat))
    obtain ⟨r, hr'⟩ : ∃ r, x.rl u v (min (x.rk u.toNat) (x.rk v.toNat)) = r := ⟨_, rfl⟩
    by_cases h0 : 0 ≤ d.2
    · rw [if_pos h0, Ix.bestTo_rl _ _ _ _ hd, hr']
      rw [hr'] at hr
      show (if r.1 < d.1 then _ else _) = _
      by_cases h1 : r.1 < d.1
      · rw [if_pos h1, if_neg (fun h => by omega)]
        rcases hr with e | e
        · rw [e] at h1; simp at h1; omega
        · rw [if_pos e.1]
      · rw [if_neg h1, if_pos ⟨h0, by omega⟩]
    · rw [if_neg h0, Ix.bestTo_rl _ _ _ _ (Int.le_refl _), hr']
      rw [hr'] at hr
      rw [show (if 0 ≤ d.2 ∧ d.1 ≤ r.1 then (⟨d.1, d.2, -1⟩ : En) else if 0 ≤ r.2 then ⟨r.1, -1, r.2⟩ else En.none) = if 0 ≤ r.2 then ⟨r.1, -1, r.2⟩ else En.none from if_neg (fun h => h0 h.1)]
      show (if r.1 < 4611686018427387906 then _ else _) = _
      rcases hr with e | e
      · rw [e]; rfl
      · rw [if_pos e.2, if_pos e.1]

/-- The right entry from one vertex to another one, in general. -/
theorem xbest_calls {x : Ix} {w : World} {L : IxLoc} (h : IxMem w L x) (hcap : x.n ≤ L.cb) {Lg : GLoc} {G : Gr} (hg : GMem w Lg G) (u v : Int) :
    Calls Tryz.prog 92 #[.pointer (some ⟨L.b, 0, none⟩), .pointer (some ⟨Lg.b, 0, none⟩), .int .i64 u, .int .i64 v] w fun e w' => e = .returned (x.best u v (G.best u v)).val ∧ Fr No w w' := by
  cases ht : x.two u v with
  | false =>
    have e : x.best u v (G.best u v) = En.none := by unfold Ix.best; rw [ht]; rfl
    rw [e]
    exact best_no h Lg.b u v ht
  | true =>
    obtain ⟨_, hu0, _, hv0, _⟩ := two_iff ht
    obtain ⟨a, rfl⟩ := Int.eq_ofNat_of_zero_le hu0
    obtain ⟨b, rfl⟩ := Int.eq_ofNat_of_zero_le hv0
    have e : x.best (a : Nat) (b : Nat) (G.best (a : Nat) (b : Nat)) = x.bestTo (a : Nat) (b : Nat) (if 0 ≤ (G.best (a : Nat) (b : Nat)).2 then ⟨(G.best (a : Nat) (b : Nat)).1, (G.best (a : Nat) (b : Nat)).2, -1⟩ else En.none) (min (x.rk a) (x.rk b)) := by
      unfold Ix.best; rw [if_pos ht]; rfl
    rw [e]
    have := best_yes h hcap (gb := Lg.b) ht (hg.out (a : Nat)) hg.arcs
    rw [best_eq] at this
    exact this

end Go.Proofs.YtoepbhacpidcbaaGreatDoor
