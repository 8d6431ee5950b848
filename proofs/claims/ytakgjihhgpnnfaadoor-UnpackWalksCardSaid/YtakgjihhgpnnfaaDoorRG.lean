/- The document's graph in memory; its functions, walked. -/
import Derived.Test.YtakgjihhgpnnfaaDoorGOps
import Derived.Test.YtakgjihhgpnnfaaDoorMid
set_option linter.unusedVariables false
set_option linter.unusedSimpArgs false
namespace Go.Proofs.YtakgjihhgpnnfaaDoor
open Go.RowKit Go.Deep

def Gr.rcell (G : Gr) (i : Nat) : Value :=
  if i = 0 then .int .i64 (G.n : Nat) else if i = 1 then .int .i64 (G.most : Nat) else if i < 66 then .bool (G.tk (i - 2))
  else G.slot ((i - 66) / 4) ((i - 66) % 4)
/-- The document's graph lies at b. -/
def RGM (w : World) (b : Nat) (G : Gr) : Prop := Blk w b 322 40 G.rcell

theorem RGM.fr {w w' : World} {b : Nat} {G : Gr} (h : RGM w b G) {F : Nat → Prop} (hf : Fr F w w') (hF : ¬ F b) : RGM w' b G := Blk.fr h hf hF
theorem RGM.no {w w' : World} {b : Nat} {G : Gr} (h : RGM w b G) (hf : Fr No w w') : RGM w' b G := h.fr hf (fun h => h)
theorem RGM.c0 {w : World} {b : Nat} {G : Gr} (h : RGM w b G) : w.cell? ⟨b, 0, none⟩ = some (.int .i64 (G.n : Nat)) := Blk.cell h (i := 0) (by omega)
theorem RGM.c1 {w : World} {b : Nat} {G : Gr} (h : RGM w b G) : w.cell? ⟨b, 1, none⟩ = some (.int .i64 (G.most : Nat)) := Blk.cell h (i := 1) (by omega)
theorem RGM.tkc {w : World} {b : Nat} {G : Gr} (h : RGM w b G) {k : Nat} (hk : k < 64) : w.cell? ⟨b, 2 + k, none⟩ = some (.bool (G.tk k)) := by
  rw [Blk.cell h (by omega), Gr.rcell, if_neg (by omega), if_neg (by omega), if_pos (by omega), show 2 + k - 2 = k by omega]
theorem RGM.arc {w : World} {b : Nat} {G : Gr} (h : RGM w b G) {k : Nat} (hk : k < 64) (c : Nat) (hc : c < 4) : w.cell? ⟨b, 66 + k * 4 + c, none⟩ = some (G.slot k c) := by
  rw [Blk.cell h (by omega), Gr.rcell, if_neg (by omega), if_neg (by omega), if_neg (by omega), show (66 + k * 4 + c - 66) / 4 = k by omega, show (66 + k * 4 + c - 66) % 4 = c by omega]
theorem selA_succ (p : Nat → Bool) (k : Nat) : selA p (k + 1) = if p k = true then selA p k ++ [(k : Int)] else selA p k := by
  unfold selA
  rw [List.range_succ, List.filter_append, List.map_append]
  by_cases e : p k = true
  · rw [if_pos e, List.filter_cons_of_pos e]; rfl
  · rw [if_neg e, List.filter_cons_of_neg e]; simp
theorem selA_len (p : Nat → Bool) (k : Nat) : (selA p k).length ≤ k := by
  unfold selA
  rw [List.length_map]
  have := List.length_filter_le p (List.range k)
  simpa using this

set_option maxRecDepth 100000 in
set_option maxHeartbeats 2000000 in
theorem rgids_calls {w : World} {b : Nat} {G : Gr} (h : RGM w b G) :
    Calls Tryd.prog 106 #[.pointer (some ⟨b, 0, none⟩)] w fun e w' => ∃ A c, e = .returned (.slice A (sel G.tk).length c) ∧ Fr No w w' ∧ SlL w' (.slice A (sel G.tk).length c) (sel G.tk) := by
  have H := hid h
  clear h
  go_enter Tryd.func106, Tryd.ntmps106
  go_wp2
  go_loopg [3, 4] 65 (fun g p q wr => ∃ (r : Nat) (l : List Int) (A : Option Addr) (c : Nat), q = .int .i64 r ∧ r ≤ 64 ∧ p = .slice A l.length c ∧ wr.ownsRow w.heap.size 3 1 (.slice A l.length c) l.length (l.map (Value.int .i64)) ∧ (l = [] → A = none ∧ c = 0) ∧
      l = selA G.tk r ∧ g = 65 - r ∧ Fr No w wr)
  case atStart => exact ⟨0, [], none, 0, rfl, by omega, rfl, World.ownsRow_nil _ _ _ _, fun _ => ⟨rfl, rfl⟩, rfl, rfl, Fr.refl _ _⟩
  case round =>
    obtain ⟨r, l, A, c, rfl, hr, rfl, hown, hnil, hl, hg, hf⟩ := hrel
    have HO := hid hown
    have HNIL := hid hnil
    have HL := hid hl
    have HG := hid hg
    have HF := hid hf
    have hlen : l.length ≤ 64 := by rw [hl]; have := selA_len G.tk r; omega
    have hsz := hf.size
    clear hown hnil hl hg
    by_cases hr64 : r < 64
    · have hr2 : (r : Int) < 64 := by omega
      have k0 := (H.out.no hf).tkc hr64
      have hst := selA_succ G.tk r
      clear hf
      cases htk : G.tk r with
      | true =>
        rw [htk] at k0 hst
        rw [if_pos rfl] at hst
        have HST := hid hst
        clear hst htk
        go_wp2_with (at_builtin; refine wpList_push (.tmp 15) (.tmp 17) (.slice A l.length c) l wr.heap.size 1 (r : Nat) ?_ ?_ ?_ ?_ w.heap.size ?_ ?_ ?_ ?_ ?_; rfl; rfl; rfl; rfl; exact own_fr HO.out ((Fr.refl No _).alloc _) (fun _ _ h => h); (simp; omega); exact cell_of (heap_new wr _) 0; omega; intro g' cap' w6 hown4 hgrow4 hat4 hlt4; have HO6 := hid hown4; have HG6 := hid hgrow4; clear hown4 hgrow4 hat4)
        all_goals go_roundg (65 - (r + 1))
        all_goals first
          | (have := HG.out; omega)
          | exact ⟨r + 1, l ++ [(r : Int)], some ⟨g', 0, none⟩, cap', by go_num, by omega, by simp, HO6.out, fun e => by simp at e, by rw [HST.out, HL.out], rfl, (HF.out.alloc _).grown HG6.out (fun k e => .inr (own_block HO.out k e).1)⟩
      | false =>
        rw [htk] at k0 hst
        rw [if_neg (by simp)] at hst
        have HST := hid hst
        clear hst htk
        go_wp2
        all_goals go_roundg (65 - (r + 1))
        all_goals first
          | (have := HG.out; omega)
          | exact ⟨r + 1, l, A, c, by go_num, by omega, rfl, HO.out, HNIL.out, by rw [HST.out, HL.out], rfl, HF.out⟩
    · have hr2 : ¬ (r : Int) < 64 := by omega
      have e64 : r = 64 := by omega
      subst e64
      clear hf
      go_wp2
      go_ret
      rw [show sel G.tk = l from HL.out.symm]
      exact ⟨A, c, rfl, HF.out, own_slL HO.out HNIL.out⟩

set_option maxRecDepth 100000 in
set_option maxHeartbeats 1000000 in
theorem rglen_calls {w : World} {b : Nat} {G : Gr} (h : RGM w b G) :
    Calls Tryd.prog 98 #[.pointer (some ⟨b, 0, none⟩)] w fun e w' => e = .returned (.int .i64 (G.cnt : Nat)) ∧ Fr No w w' := by
  rw [show G.cnt = (sel G.tk).length from rfl]
  have hl := sel_len G.tk
  go_enter Tryd.func98, Tryd.ntmps98
  go_wp2_with fail
  refine (rgids_calls h).mono ?_
  rintro e w1 ⟨A, c, rfl, hf, hs⟩
  clear hs
  go_wp2
  go_ret
  exact ⟨rfl, hf⟩

set_option maxRecDepth 100000 in
set_option maxHeartbeats 1000000 in
theorem rgvertex_calls {w : World} {b : Nat} {G : Gr} (h : RGM w b G) (v : Int) :
    Calls Tryd.prog 42 #[.pointer (some ⟨b, 0, none⟩), .int .i64 v] w fun e w' => e = .returned (.bool (decide (0 ≤ v ∧ v < G.n))) ∧ w = w' := by
  have c0 := h.c0
  clear h
  by_cases h0 : 0 ≤ v
  · have h0a : decide (0 ≤ v) = true := by simpa using h0
    by_cases h1 : v < G.n
    · have h2 : decide (0 ≤ v ∧ v < G.n) = true := by simp; omega
      rw [h2]
      go_enter Tryd.func42, Tryd.ntmps42
      go_wp2
      go_ret
      exact ⟨ret_bool (by simp <;> omega), rfl⟩
    · have h2 : decide (0 ≤ v ∧ v < G.n) = false := by simp; omega
      rw [h2]
      go_enter Tryd.func42, Tryd.ntmps42
      go_wp2
      go_ret
      exact ⟨ret_bool (by simp <;> omega), rfl⟩
  · have h2 : decide (0 ≤ v ∧ v < G.n) = false := by simp; omega
    have h0a : decide (0 ≤ v) = false := by simpa using h0
    rw [h2]
    go_enter Tryd.func42, Tryd.ntmps42
    go_wp2
    go_ret
    exact ⟨rfl, rfl⟩

set_option maxRecDepth 100000 in
set_option maxHeartbeats 1000000 in
theorem rgweight_calls (i : Int) (w : World) : Calls Tryd.prog 97 #[.int .i64 i] w fun e w' => e = .returned (.bool (decide (1 ≤ i ∧ i ≤ 4611686018427387904))) ∧ w = w' := by
  by_cases h0 : 1 ≤ i
  · have h0a : decide (1 ≤ i) = true := by simpa using h0
    by_cases h1 : i ≤ 4611686018427387904
    · have h2 : decide (1 ≤ i ∧ i ≤ 4611686018427387904) = true := by simp; omega
      rw [h2]
      go_enter Tryd.func97, Tryd.ntmps97
      go_wp2
      go_ret
      exact ⟨ret_bool (by simp <;> omega), rfl⟩
    · have h2 : decide (1 ≤ i ∧ i ≤ 4611686018427387904) = false := by simp; omega
      rw [h2]
      go_enter Tryd.func97, Tryd.ntmps97
      go_wp2
      go_ret
      exact ⟨ret_bool (by simp <;> omega), rfl⟩
  · have h2 : decide (1 ≤ i ∧ i ≤ 4611686018427387904) = false := by simp; omega
    have h0a : decide (1 ≤ i) = false := by simpa using h0
    rw [h2]
    go_enter Tryd.func97, Tryd.ntmps97
    go_wp2
    go_ret
    exact ⟨rfl, rfl⟩

set_option maxRecDepth 100000 in
set_option maxHeartbeats 1000000 in
theorem rgcode_calls {w : World} {b : Nat} {G : Gr} (h : RGM w b G) (id : Int) :
    Calls Tryd.prog 75 #[.pointer (some ⟨b, 0, none⟩), .int .i64 id] w fun e w' => e = .returned (.int .i64 (G.code id)) ∧ w = w' := by
  by_cases h0 : id < 0
  · have h0a : decide (id < 0) = true := by simpa using h0
    have e : G.code id = 1 := by unfold Gr.code; rw [if_neg (by omega)]
    rw [e]
    go_enter Tryd.func75, Tryd.ntmps75
    go_wp2
    go_ret
    exact ⟨rfl, rfl⟩
  · have h0a : decide (id < 0) = false := by simp; omega
    by_cases h1 : id < 64
    · obtain ⟨k, rfl⟩ := Int.eq_ofNat_of_zero_le (show 0 ≤ id by omega)
      have hk : k < 64 := by omega
      have k0 := h.tkc hk
      have h1a : ¬ (63 : Int) < (k : Nat) := by omega
      have e : G.code k = if G.tk k then 0 else 3 := by unfold Gr.code; rw [if_pos (by omega)]; rfl
      rw [e]
      clear h e
      cases htk : G.tk k with
      | true =>
        rw [htk] at k0
        go_enter Tryd.func75, Tryd.ntmps75
        go_wp2
        go_ret
        exact ⟨rfl, rfl⟩
      | false =>
        rw [htk] at k0
        go_enter Tryd.func75, Tryd.ntmps75
        go_wp2
        go_ret
        exact ⟨rfl, rfl⟩
    · have h1a : (63 : Int) < id := by omega
      have e : G.code id = 1 := by unfold Gr.code; rw [if_neg (by omega)]
      rw [e]
      go_enter Tryd.func75, Tryd.ntmps75
      go_wp2
      go_ret
      exact ⟨rfl, rfl⟩

def Gr.set (G : Gr) (k : Nat) (a : Arc4) (v : Bool) : Gr := ⟨G.n, G.most, fun i => if i = k then a else G.arc i, fun i => if i = k then v else G.tk i⟩
theorem Gr.rcell_tk (G : Gr) (k : Nat) (hk : k < 64) : G.rcell (2 + k) = .bool (G.tk k) := by
  unfold Gr.rcell
  rw [if_neg (by omega), if_neg (by omega), if_pos (by omega), show 2 + k - 2 = k by omega]
theorem Gr.rcell_arc (G : Gr) (k c : Nat) (hc : c < 4) : G.rcell (66 + k * 4 + c) = G.slot k c := by
  unfold Gr.rcell
  rw [if_neg (by omega), if_neg (by omega), if_neg (by omega), show (66 + k * 4 + c - 66) / 4 = k by omega, show (66 + k * 4 + c - 66) % 4 = c by omega]
theorem Gr.slot_set (G : Gr) (k j d : Nat) (a : Arc4) (v : Bool) (h : j ≠ k) : (G.set k a v).slot j d = G.slot j d := by
  unfold Gr.slot Gr.set
  simp only [h, if_false]
theorem upd_ne {V : Nat → Value} {p i : Nat} {v : Value} (h : i ≠ p) : upd V p v i = V i := if_neg h
theorem upd_eq {V : Nat → Value} {p i : Nat} {v : Value} (h : i = p) : upd V p v i = v := if_pos h
theorem Gr.rset_cell (G : Gr) (k : Nat) (hk : k < 64) (a : Arc4) (v : Bool) (i : Nat) :
    upd (upd (upd (upd (upd G.rcell (2 + k) (.bool v)) (66 + k * 4) (.int .i64 a.t)) (66 + k * 4 + 1) (.int .i64 a.h)) (66 + k * 4 + 2) (.int .i64 a.w)) (66 + k * 4 + 3) (.bool a.c) i = (G.set k a v).rcell i := by
  by_cases h66 : i < 66
  · rw [upd_ne (show i ≠ 66 + k * 4 + 3 by omega), upd_ne (show i ≠ 66 + k * 4 + 2 by omega), upd_ne (show i ≠ 66 + k * 4 + 1 by omega), upd_ne (show i ≠ 66 + k * 4 by omega)]
    by_cases h0 : i = 2 + k
    · rw [upd_eq h0, h0, Gr.rcell_tk _ k hk]
      exact congrArg Value.bool (if_pos rfl).symm
    · rw [upd_ne h0]
      by_cases h1 : i < 2
      · unfold Gr.rcell
        by_cases h2 : i = 0
        · rw [if_pos h2, if_pos h2]; rfl
        · rw [if_neg h2, if_neg h2, if_pos (show i = 1 by omega), if_pos (show i = 1 by omega)]; rfl
      · obtain ⟨j, rfl⟩ : ∃ j, i = 2 + j := ⟨i - 2, by omega⟩
        rw [Gr.rcell_tk _ j (by omega), Gr.rcell_tk _ j (by omega)]
        exact congrArg Value.bool (if_neg (show ¬ j = k by omega)).symm
  · obtain ⟨j, d, hd, rfl⟩ : ∃ j d, d < 4 ∧ i = 66 + j * 4 + d := ⟨(i - 66) / 4, (i - 66) % 4, Nat.mod_lt _ (by omega), by omega⟩
    rw [Gr.rcell_arc _ j d hd]
    by_cases e : j = k
    · subst e
      match d, hd with
      | 0, _ =>
        rw [upd_ne (by omega), upd_ne (by omega), upd_ne (by omega), upd_eq (by omega)]
        exact congrArg (fun z : Arc4 => Value.int .i64 z.t) (if_pos rfl).symm
      | 1, _ =>
        rw [upd_ne (by omega), upd_ne (by omega), upd_eq (by omega)]
        exact congrArg (fun z : Arc4 => Value.int .i64 z.h) (if_pos rfl).symm
      | 2, _ =>
        rw [upd_ne (by omega), upd_eq (by omega)]
        exact congrArg (fun z : Arc4 => Value.int .i64 z.w) (if_pos rfl).symm
      | 3, _ =>
        rw [upd_eq (by omega)]
        exact congrArg (fun z : Arc4 => Value.bool z.c) (if_pos rfl).symm
    · rw [Gr.slot_set _ _ _ _ _ _ e, upd_ne (by omega), upd_ne (by omega), upd_ne (by omega), upd_ne (by omega), upd_ne (by omega), Gr.rcell_arc _ j d hd]
theorem Gr.rone_cell (G : Gr) (k : Nat) (hk : k < 64) (c : Nat) (hc : c < 4) (v : Value) (G' : Gr) (h0 : G'.n = G.n) (h1 : G'.most = G.most) (h2 : G'.tk = G.tk) (h3 : ∀ j d, d < 4 → G'.slot j d = if j = k ∧ d = c then v else G.slot j d) (i : Nat) :
    upd G.rcell (66 + k * 4 + c) v i = G'.rcell i := by
  unfold upd Gr.rcell
  by_cases h66 : i < 66
  · rw [if_neg (by omega), h0, h1, h2, if_pos h66, if_pos h66]
  · rw [if_neg (show ¬ i = 0 by omega), if_neg (show ¬ i = 0 by omega), if_neg (show ¬ i = 1 by omega), if_neg (show ¬ i = 1 by omega), if_neg h66, if_neg h66, h3 _ _ (Nat.mod_lt _ (by omega))]
    by_cases e : i = 66 + k * 4 + c
    · rw [if_pos e, if_pos (by omega)]
    · rw [if_neg e, if_neg (by omega)]
theorem Gr.rshut_cell (G : Gr) (k : Nat) (hk : k < 64) (c : Bool) (i : Nat) : upd G.rcell (66 + k * 4 + 3) (.bool c) i = (G.shut k c).rcell i := by
  refine G.rone_cell k hk 3 (by omega) (.bool c) (G.shut k c) rfl rfl rfl (fun j d hd => ?_) i
  unfold Gr.slot Gr.shut
  by_cases e : j = k
  · subst e
    match d, hd with
    | 0, _ => simp
    | 1, _ => simp
    | 2, _ => simp
    | 3, _ => simp
  · simp [e]
theorem Gr.rwei_cell (G : Gr) (k : Nat) (hk : k < 64) (c : Int) (i : Nat) : upd G.rcell (66 + k * 4 + 2) (.int .i64 c) i = (G.wei k c).rcell i := by
  refine G.rone_cell k hk 2 (by omega) (.int .i64 c) (G.wei k c) rfl rfl rfl (fun j d hd => ?_) i
  unfold Gr.slot Gr.wei
  by_cases e : j = k
  · subst e
    match d, hd with
    | 0, _ => simp
    | 1, _ => simp
    | 2, _ => simp
    | 3, _ => simp
  · simp [e]

set_option maxRecDepth 100000 in
set_option maxHeartbeats 1000000 in
theorem rgdelete_calls {w : World} {b : Nat} {G : Gr} (h : RGM w b G) (id : Int) :
    Calls Tryd.prog 70 #[.pointer (some ⟨b, 0, none⟩), .int .i64 id] w fun e w' => e = .returned (.int .i64 (G.code id)) ∧ RGM w' b (G.rm id) ∧ Fr (One b) w w' := by
  have HC := hid (rgcode_calls h id)
  have H := hid h
  rcases G.code_cases id with ⟨e, h1⟩ | ⟨k, rfl, hk, htk, e⟩ | ⟨k, rfl, hk, htk, e⟩
  · have er : G.rm id = G := by unfold Gr.rm; rw [e]; rfl
    rw [e] at HC ⊢
    rw [er]
    clear h er e
    go_enter Tryd.func70, Tryd.ntmps70
    go_wp2_with fail
    refine HC.out.mono ?_
    rintro e w1 ⟨rfl, rfl⟩
    go_wp2
    go_ret
    exact ⟨rfl, H.out, Fr.refl _ _⟩
  · have er : G.rm k = G := by unfold Gr.rm; rw [e]; rfl
    rw [e] at HC ⊢
    rw [er]
    clear h er e
    go_enter Tryd.func70, Tryd.ntmps70
    go_wp2_with fail
    refine HC.out.mono ?_
    rintro e w1 ⟨rfl, rfl⟩
    go_wp2
    go_ret
    exact ⟨rfl, H.out, Fr.refl _ _⟩
  · have er : G.rm k = G.set k ⟨0, 0, 0, false⟩ false := by unfold Gr.rm; rw [e]; rfl
    rw [e] at HC ⊢
    rw [er]
    have z4 := h.tkc hk
    have z0 := h.arc hk 0 (by omega)
    have z1 := h.arc hk 1 (by omega)
    have z2 := h.arc hk 2 (by omega)
    have z3 := h.arc hk 3 (by omega)
    have zf := fun i => Blk.frozen h i
    have hk2 : (k : Int) < 64 := by omega
    clear h er e
    go_enter Tryd.func70, Tryd.ntmps70
    go_wp2_with fail
    refine HC.out.mono ?_
    rintro e w1 ⟨rfl, rfl⟩
    rw [Nat.add_zero] at z0
    go_wp2
    go_ret
    exact ⟨rfl, Blk.congr (((((Blk.setCell H.out (2 + k) (.bool false)).setCell (66 + k * 4) (.int .i64 0)).setCell (66 + k * 4 + 1) (.int .i64 0)).setCell (66 + k * 4 + 2) (.int .i64 0)).setCell (66 + k * 4 + 3) (.bool false)) (fun i _ => G.rset_cell k hk ⟨0, 0, 0, false⟩ false i),
      (((((Fr.refl _ _).set1 _ _).set1 _ _).set1 _ _).set1 _ _).set1 _ _⟩

set_option maxRecDepth 100000 in
set_option maxHeartbeats 1000000 in
theorem rgturn_calls {w : World} {b : Nat} {G : Gr} (h : RGM w b G) (id : Int) (c : Bool) :
    Calls Tryd.prog 71 #[.pointer (some ⟨b, 0, none⟩), .int .i64 id, .bool c] w fun e w' => e = .returned (.int .i64 (G.tcode id c)) ∧ RGM w' b (G.tn id c) ∧ Fr (One b) w w' := by
  have HC := hid (rgcode_calls h id)
  have H := hid h
  rcases G.code_cases id with ⟨e, h1⟩ | ⟨k, rfl, hk, htk, e⟩ | ⟨k, rfl, hk, htk, e⟩
  · have ec : G.tcode id c = 1 := by unfold Gr.tcode; rw [e]; rfl
    have er : G.tn id c = G := by unfold Gr.tn; rw [ec]; rfl
    rw [e] at HC
    rw [er, ec]
    clear h er ec e
    go_enter Tryd.func71, Tryd.ntmps71
    go_wp2_with fail
    refine HC.out.mono ?_
    rintro e w1 ⟨rfl, rfl⟩
    go_wp2
    go_ret
    exact ⟨rfl, H.out, Fr.refl _ _⟩
  · have ec : G.tcode k c = 3 := by unfold Gr.tcode; rw [e]; rfl
    have er : G.tn k c = G := by unfold Gr.tn; rw [ec]; rfl
    rw [e] at HC
    rw [er, ec]
    clear h er ec e
    go_enter Tryd.func71, Tryd.ntmps71
    go_wp2_with fail
    refine HC.out.mono ?_
    rintro e w1 ⟨rfl, rfl⟩
    go_wp2
    go_ret
    exact ⟨rfl, H.out, Fr.refl _ _⟩
  · have z3 : w.cell? ⟨b, 66 + k * 4 + 3, none⟩ = some (.bool (G.arc k).c) := h.arc hk 3 (by omega)
    have zf := fun i => Blk.frozen h i
    have hk2 : (k : Int) < 64 := by omega
    by_cases hcc : (G.arc k).c = c
    · have ec : G.tcode k c = 5 := by unfold Gr.tcode; rw [e, if_pos rfl]; exact if_pos hcc
      have er : G.tn k c = G := by unfold Gr.tn; rw [ec]; rfl
      rw [e] at HC
      rw [er, ec]
      rw [hcc] at z3
      clear h er ec e
      go_enter Tryd.func71, Tryd.ntmps71
      go_wp2_with fail
      refine HC.out.mono ?_
      rintro e w1 ⟨rfl, rfl⟩
      go_wp2
      go_ret
      exact ⟨rfl, H.out, Fr.refl _ _⟩
    · have ec : G.tcode k c = 0 := by unfold Gr.tcode; rw [e, if_pos rfl]; exact if_neg hcc
      have er : G.tn k c = G.shut k c := by unfold Gr.tn; rw [ec]; rfl
      have hb : ((G.arc k).c == c) = false := by simpa using hcc
      rw [e] at HC
      rw [er, ec]
      clear h er ec e hcc
      go_enter Tryd.func71, Tryd.ntmps71
      go_wp2_with fail
      refine HC.out.mono ?_
      rintro e w1 ⟨rfl, rfl⟩
      go_wp2
      go_ret
      exact ⟨rfl, Blk.congr (Blk.setCell H.out (66 + k * 4 + 3) (.bool c)) (fun i _ => G.rshut_cell k hk c i), (Fr.refl _ _).set1 _ _⟩

set_option maxRecDepth 100000 in
set_option maxHeartbeats 1000000 in
theorem rgweigh_calls {w : World} {b : Nat} {G : Gr} (h : RGM w b G) (id x : Int) :
    Calls Tryd.prog 72 #[.pointer (some ⟨b, 0, none⟩), .int .i64 id, .int .i64 x] w fun e w' => e = .returned (.int .i64 (G.wcode id x)) ∧ RGM w' b (G.wt id x) ∧ Fr (One b) w w' := by
  have HC := hid (rgcode_calls h id)
  have H := hid h
  by_cases hx : 1 ≤ x ∧ x ≤ 4611686018427387904
  · have hxd : decide (1 ≤ x ∧ x ≤ 4611686018427387904) = true := decide_eq_true hx
    rcases G.code_cases id with ⟨e, h1⟩ | ⟨k, rfl, hk, htk, e⟩ | ⟨k, rfl, hk, htk, e⟩
    · have ec : G.wcode id x = 1 := by unfold Gr.wcode; rw [if_pos hx, e]
      have er : G.wt id x = G := by unfold Gr.wt; rw [ec]; rfl
      rw [e] at HC
      rw [er, ec]
      clear h er ec e hx
      go_enter Tryd.func72, Tryd.ntmps72
      go_wp2_with fail
      refine (rgweight_calls x _).mono ?_
      rintro e w1 ⟨rfl, rfl⟩
      rw [hxd]
      go_wp2_with fail
      refine HC.out.mono ?_
      rintro e w1 ⟨rfl, rfl⟩
      go_wp2
      go_ret
      exact ⟨rfl, H.out, Fr.refl _ _⟩
    · have ec : G.wcode k x = 3 := by unfold Gr.wcode; rw [if_pos hx, e]
      have er : G.wt k x = G := by unfold Gr.wt; rw [ec]; rfl
      rw [e] at HC
      rw [er, ec]
      clear h er ec e hx
      go_enter Tryd.func72, Tryd.ntmps72
      go_wp2_with fail
      refine (rgweight_calls x _).mono ?_
      rintro e w1 ⟨rfl, rfl⟩
      rw [hxd]
      go_wp2_with fail
      refine HC.out.mono ?_
      rintro e w1 ⟨rfl, rfl⟩
      go_wp2
      go_ret
      exact ⟨rfl, H.out, Fr.refl _ _⟩
    · have ec : G.wcode k x = 0 := by unfold Gr.wcode; rw [if_pos hx, e]
      have er : G.wt k x = G.wei k x := by unfold Gr.wt; rw [ec]; rfl
      have z3 : w.cell? ⟨b, 66 + k * 4 + 2, none⟩ = some (.int .i64 (G.arc k).w) := h.arc hk 2 (by omega)
      have zf := fun i => Blk.frozen h i
      have hk2 : (k : Int) < 64 := by omega
      rw [e] at HC
      rw [er, ec]
      clear h er ec e hx
      go_enter Tryd.func72, Tryd.ntmps72
      go_wp2_with fail
      refine (rgweight_calls x _).mono ?_
      rintro e w1 ⟨rfl, rfl⟩
      rw [hxd]
      go_wp2_with fail
      refine HC.out.mono ?_
      rintro e w1 ⟨rfl, rfl⟩
      go_wp2
      go_ret
      exact ⟨rfl, Blk.congr (Blk.setCell H.out (66 + k * 4 + 2) (.int .i64 x)) (fun i _ => G.rwei_cell k hk x i), (Fr.refl _ _).set1 _ _⟩
  · have hxd : decide (1 ≤ x ∧ x ≤ 4611686018427387904) = false := decide_eq_false hx
    have ec : G.wcode id x = 1 := by unfold Gr.wcode; rw [if_neg hx]
    have er : G.wt id x = G := by unfold Gr.wt; rw [ec]; rfl
    rw [er, ec]
    clear h er ec hx
    go_enter Tryd.func72, Tryd.ntmps72
    go_wp2_with fail
    refine (rgweight_calls x _).mono ?_
    rintro e w1 ⟨rfl, rfl⟩
    rw [hxd]
    go_wp2
    go_ret
    exact ⟨rfl, H.out, Fr.refl _ _⟩

end Go.Proofs.YtakgjihhgpnnfaaDoor
