/- Refusals of an insertion; a change of a graph; walked. -/
import Derived.Test.YtlncmnphjdeeoaaDoorGOps
set_option linter.unusedVariables false
set_option linter.unusedSimpArgs false
namespace Go.Proofs.YtlncmnphjdeeoaaDoor
open Go.RowKit Go.Deep

set_option maxRecDepth 100000 in
set_option maxHeartbeats 2000000 in
theorem gins_n0 {w : World} {L : GLoc} {G : Gr} (h : GMem w L G) (id : Int) (a : Arc4) (h0 : ¬ (0 ≤ id ∧ id < 64)) :
    Calls Tryd.prog 105 #[.pointer (some ⟨L.b, 0, none⟩), .int .i64 id, .agg #[.int .i64 a.t, .int .i64 a.h, .int .i64 a.w, .bool a.c]] w fun e w' => e = .returned (.int .i64 1) ∧ Fr No w w' := by
  have hn2 := h.ok.n2
  have d0 : decide (0 ≤ id ∧ id < 64) = false := decide_eq_false h0
  have f0 : Fr No w (w.alloc (.cells #[.int .i64 a.t, .int .i64 a.h, .int .i64 a.w, .bool a.c] 93)) := (Fr.refl No w).alloc _
  have hA := heap_new w (.cells #[.int .i64 a.t, .int .i64 a.h, .int .i64 a.w, .bool a.c] 93)
  have c320 : (w.alloc (.cells #[.int .i64 a.t, .int .i64 a.h, .int .i64 a.w, .bool a.c] 93)).cell? ⟨L.b, 320, none⟩ = some (.slice (some ⟨L.ba, 0, none⟩) G.n G.n) := (h.no f0).blk.cell (i := 320) (by omega)
  have a0 := cell_of hA 0
  have a1 := cell_of hA 1
  have a2 := cell_of hA 2
  have F0 := hid f0
  clear h f0
  go_enter Tryd.func105, Tryd.ntmps105
  go_wp2_with fail
  refine (place_id_calls _ _).mono ?_
  rintro e w1 ⟨rfl, rfl⟩
  rw [d0]
  obtain ⟨W0, hW0⟩ : ∃ W0, w.alloc (.cells #[.int .i64 a.t, .int .i64 a.h, .int .i64 a.w, .bool a.c] 93) = W0 := ⟨_, rfl⟩
  rw [hW0] at F0 c320 a0 a1 a2  ⊢
  clear hA hW0
  simp at a0 a1 a2
  go_wp2
  go_ret
  exact ⟨rfl, F0.out⟩

set_option maxRecDepth 100000 in
set_option maxHeartbeats 2000000 in
theorem gins_n1 {w : World} {L : GLoc} {G : Gr} (h : GMem w L G) (id : Int) (a : Arc4) (h0 : (0 ≤ id ∧ id < 64)) (h1 : ¬ (0 ≤ a.t ∧ a.t < G.n)) :
    Calls Tryd.prog 105 #[.pointer (some ⟨L.b, 0, none⟩), .int .i64 id, .agg #[.int .i64 a.t, .int .i64 a.h, .int .i64 a.w, .bool a.c]] w fun e w' => e = .returned (.int .i64 1) ∧ Fr No w w' := by
  have hn2 := h.ok.n2
  have d0 : decide (0 ≤ id ∧ id < 64) = true := decide_eq_true h0
  have d1 : decide (0 ≤ a.t ∧ a.t < G.n) = false := decide_eq_false h1
  have f0 : Fr No w (w.alloc (.cells #[.int .i64 a.t, .int .i64 a.h, .int .i64 a.w, .bool a.c] 93)) := (Fr.refl No w).alloc _
  have hA := heap_new w (.cells #[.int .i64 a.t, .int .i64 a.h, .int .i64 a.w, .bool a.c] 93)
  have c320 : (w.alloc (.cells #[.int .i64 a.t, .int .i64 a.h, .int .i64 a.w, .bool a.c] 93)).cell? ⟨L.b, 320, none⟩ = some (.slice (some ⟨L.ba, 0, none⟩) G.n G.n) := (h.no f0).blk.cell (i := 320) (by omega)
  have a0 := cell_of hA 0
  have a1 := cell_of hA 1
  have a2 := cell_of hA 2
  have F0 := hid f0
  clear h f0
  go_enter Tryd.func105, Tryd.ntmps105
  go_wp2_with fail
  refine (place_id_calls _ _).mono ?_
  rintro e w1 ⟨rfl, rfl⟩
  rw [d0]
  obtain ⟨W0, hW0⟩ : ∃ W0, w.alloc (.cells #[.int .i64 a.t, .int .i64 a.h, .int .i64 a.w, .bool a.c] 93) = W0 := ⟨_, rfl⟩
  rw [hW0] at F0 c320 a0 a1 a2  ⊢
  clear hA hW0
  simp at a0 a1 a2
  go_wp2_with fail
  refine (vertex_calls a.t c320 (by omega)).mono ?_
  rintro e w1 ⟨rfl, hf⟩
  rw [d1]
  have F1 := hid (F0.out.trans hf)
  replace c320 := hf.cell_some c320 (fun h => h)
  replace a0 := hf.cell_some a0 (fun h => h)
  replace a1 := hf.cell_some a1 (fun h => h)
  replace a2 := hf.cell_some a2 (fun h => h)
  clear hf
  go_wp2
  go_ret
  exact ⟨rfl, F1.out⟩

set_option maxRecDepth 100000 in
set_option maxHeartbeats 2000000 in
theorem gins_n2 {w : World} {L : GLoc} {G : Gr} (h : GMem w L G) (id : Int) (a : Arc4) (h0 : (0 ≤ id ∧ id < 64)) (h1 : (0 ≤ a.t ∧ a.t < G.n)) (h2 : ¬ (0 ≤ a.h ∧ a.h < G.n)) :
    Calls Tryd.prog 105 #[.pointer (some ⟨L.b, 0, none⟩), .int .i64 id, .agg #[.int .i64 a.t, .int .i64 a.h, .int .i64 a.w, .bool a.c]] w fun e w' => e = .returned (.int .i64 1) ∧ Fr No w w' := by
  have hn2 := h.ok.n2
  have d0 : decide (0 ≤ id ∧ id < 64) = true := decide_eq_true h0
  have d1 : decide (0 ≤ a.t ∧ a.t < G.n) = true := decide_eq_true h1
  have d2 : decide (0 ≤ a.h ∧ a.h < G.n) = false := decide_eq_false h2
  have f0 : Fr No w (w.alloc (.cells #[.int .i64 a.t, .int .i64 a.h, .int .i64 a.w, .bool a.c] 93)) := (Fr.refl No w).alloc _
  have hA := heap_new w (.cells #[.int .i64 a.t, .int .i64 a.h, .int .i64 a.w, .bool a.c] 93)
  have c320 : (w.alloc (.cells #[.int .i64 a.t, .int .i64 a.h, .int .i64 a.w, .bool a.c] 93)).cell? ⟨L.b, 320, none⟩ = some (.slice (some ⟨L.ba, 0, none⟩) G.n G.n) := (h.no f0).blk.cell (i := 320) (by omega)
  have a0 := cell_of hA 0
  have a1 := cell_of hA 1
  have a2 := cell_of hA 2
  have F0 := hid f0
  clear h f0
  go_enter Tryd.func105, Tryd.ntmps105
  go_wp2_with fail
  refine (place_id_calls _ _).mono ?_
  rintro e w1 ⟨rfl, rfl⟩
  rw [d0]
  obtain ⟨W0, hW0⟩ : ∃ W0, w.alloc (.cells #[.int .i64 a.t, .int .i64 a.h, .int .i64 a.w, .bool a.c] 93) = W0 := ⟨_, rfl⟩
  rw [hW0] at F0 c320 a0 a1 a2  ⊢
  clear hA hW0
  simp at a0 a1 a2
  go_wp2_with fail
  refine (vertex_calls a.t c320 (by omega)).mono ?_
  rintro e w1 ⟨rfl, hf⟩
  rw [d1]
  have F1 := hid (F0.out.trans hf)
  replace c320 := hf.cell_some c320 (fun h => h)
  replace a0 := hf.cell_some a0 (fun h => h)
  replace a1 := hf.cell_some a1 (fun h => h)
  replace a2 := hf.cell_some a2 (fun h => h)
  clear hf
  go_wp2_with fail
  refine (vertex_calls a.h c320 (by omega)).mono ?_
  rintro e w2 ⟨rfl, hf⟩
  rw [d2]
  have F2 := hid (F1.out.trans hf)
  replace c320 := hf.cell_some c320 (fun h => h)
  replace a0 := hf.cell_some a0 (fun h => h)
  replace a1 := hf.cell_some a1 (fun h => h)
  replace a2 := hf.cell_some a2 (fun h => h)
  clear hf
  go_wp2
  go_ret
  exact ⟨rfl, F2.out⟩

set_option maxRecDepth 100000 in
set_option maxHeartbeats 2000000 in
theorem gins_n3 {w : World} {L : GLoc} {G : Gr} (h : GMem w L G) (id : Int) (a : Arc4) (h0 : (0 ≤ id ∧ id < 64)) (h1 : (0 ≤ a.t ∧ a.t < G.n)) (h2 : (0 ≤ a.h ∧ a.h < G.n)) (h3 : ¬ (1 ≤ a.w ∧ a.w ≤ 4611686018427387904)) :
    Calls Tryd.prog 105 #[.pointer (some ⟨L.b, 0, none⟩), .int .i64 id, .agg #[.int .i64 a.t, .int .i64 a.h, .int .i64 a.w, .bool a.c]] w fun e w' => e = .returned (.int .i64 1) ∧ Fr No w w' := by
  have hn2 := h.ok.n2
  have d0 : decide (0 ≤ id ∧ id < 64) = true := decide_eq_true h0
  have d1 : decide (0 ≤ a.t ∧ a.t < G.n) = true := decide_eq_true h1
  have d2 : decide (0 ≤ a.h ∧ a.h < G.n) = true := decide_eq_true h2
  have d3 : decide (1 ≤ a.w ∧ a.w ≤ 4611686018427387904) = false := decide_eq_false h3
  have f0 : Fr No w (w.alloc (.cells #[.int .i64 a.t, .int .i64 a.h, .int .i64 a.w, .bool a.c] 93)) := (Fr.refl No w).alloc _
  have hA := heap_new w (.cells #[.int .i64 a.t, .int .i64 a.h, .int .i64 a.w, .bool a.c] 93)
  have c320 : (w.alloc (.cells #[.int .i64 a.t, .int .i64 a.h, .int .i64 a.w, .bool a.c] 93)).cell? ⟨L.b, 320, none⟩ = some (.slice (some ⟨L.ba, 0, none⟩) G.n G.n) := (h.no f0).blk.cell (i := 320) (by omega)
  have a0 := cell_of hA 0
  have a1 := cell_of hA 1
  have a2 := cell_of hA 2
  have F0 := hid f0
  clear h f0
  go_enter Tryd.func105, Tryd.ntmps105
  go_wp2_with fail
  refine (place_id_calls _ _).mono ?_
  rintro e w1 ⟨rfl, rfl⟩
  rw [d0]
  obtain ⟨W0, hW0⟩ : ∃ W0, w.alloc (.cells #[.int .i64 a.t, .int .i64 a.h, .int .i64 a.w, .bool a.c] 93) = W0 := ⟨_, rfl⟩
  rw [hW0] at F0 c320 a0 a1 a2  ⊢
  clear hA hW0
  simp at a0 a1 a2
  go_wp2_with fail
  refine (vertex_calls a.t c320 (by omega)).mono ?_
  rintro e w1 ⟨rfl, hf⟩
  rw [d1]
  have F1 := hid (F0.out.trans hf)
  replace c320 := hf.cell_some c320 (fun h => h)
  replace a0 := hf.cell_some a0 (fun h => h)
  replace a1 := hf.cell_some a1 (fun h => h)
  replace a2 := hf.cell_some a2 (fun h => h)
  clear hf
  go_wp2_with fail
  refine (vertex_calls a.h c320 (by omega)).mono ?_
  rintro e w2 ⟨rfl, hf⟩
  rw [d2]
  have F2 := hid (F1.out.trans hf)
  replace c320 := hf.cell_some c320 (fun h => h)
  replace a0 := hf.cell_some a0 (fun h => h)
  replace a1 := hf.cell_some a1 (fun h => h)
  replace a2 := hf.cell_some a2 (fun h => h)
  clear hf
  go_wp2_with fail
  refine (weight_calls a.w _).mono ?_
  rintro e w3 ⟨rfl, rfl⟩
  rw [d3]
  go_wp2
  go_ret
  exact ⟨rfl, F2.out⟩

set_option maxRecDepth 100000 in
set_option maxHeartbeats 2000000 in
theorem gins_n4 {w : World} {L : GLoc} {G : Gr} (h : GMem w L G) (id : Int) (a : Arc4) (h0 : (0 ≤ id ∧ id < 64)) (h1 : (0 ≤ a.t ∧ a.t < G.n)) (h2 : (0 ≤ a.h ∧ a.h < G.n)) (h3 : (1 ≤ a.w ∧ a.w ≤ 4611686018427387904)) (htk : G.tk id.toNat = true) :
    Calls Tryd.prog 105 #[.pointer (some ⟨L.b, 0, none⟩), .int .i64 id, .agg #[.int .i64 a.t, .int .i64 a.h, .int .i64 a.w, .bool a.c]] w fun e w' => e = .returned (.int .i64 4) ∧ Fr No w w' := by
  have hn2 := h.ok.n2
  have d0 : decide (0 ≤ id ∧ id < 64) = true := decide_eq_true h0
  have d1 : decide (0 ≤ a.t ∧ a.t < G.n) = true := decide_eq_true h1
  have d2 : decide (0 ≤ a.h ∧ a.h < G.n) = true := decide_eq_true h2
  have d3 : decide (1 ≤ a.w ∧ a.w ≤ 4611686018427387904) = true := decide_eq_true h3
  have hk : id.toNat < 64 := by omega
  have htc := h.tkc hk
  rw [htk] at htc
  have h01 := h0.1
  have h02 := h0.2
  have f0 : Fr No w (w.alloc (.cells #[.int .i64 a.t, .int .i64 a.h, .int .i64 a.w, .bool a.c] 93)) := (Fr.refl No w).alloc _
  have hA := heap_new w (.cells #[.int .i64 a.t, .int .i64 a.h, .int .i64 a.w, .bool a.c] 93)
  have c320 : (w.alloc (.cells #[.int .i64 a.t, .int .i64 a.h, .int .i64 a.w, .bool a.c] 93)).cell? ⟨L.b, 320, none⟩ = some (.slice (some ⟨L.ba, 0, none⟩) G.n G.n) := (h.no f0).blk.cell (i := 320) (by omega)
  have ctk := f0.cell_some htc (fun h => h)
  have a0 := cell_of hA 0
  have a1 := cell_of hA 1
  have a2 := cell_of hA 2
  have F0 := hid f0
  clear htc
  clear h f0
  go_enter Tryd.func105, Tryd.ntmps105
  go_wp2_with fail
  refine (place_id_calls _ _).mono ?_
  rintro e w1 ⟨rfl, rfl⟩
  rw [d0]
  obtain ⟨W0, hW0⟩ : ∃ W0, w.alloc (.cells #[.int .i64 a.t, .int .i64 a.h, .int .i64 a.w, .bool a.c] 93) = W0 := ⟨_, rfl⟩
  rw [hW0] at F0 c320 a0 a1 a2 ctk ⊢
  clear hA hW0
  simp at a0 a1 a2
  go_wp2_with fail
  refine (vertex_calls a.t c320 (by omega)).mono ?_
  rintro e w1 ⟨rfl, hf⟩
  rw [d1]
  have F1 := hid (F0.out.trans hf)
  replace c320 := hf.cell_some c320 (fun h => h)
  replace a0 := hf.cell_some a0 (fun h => h)
  replace a1 := hf.cell_some a1 (fun h => h)
  replace a2 := hf.cell_some a2 (fun h => h)
  replace ctk := hf.cell_some ctk (fun h => h)
  clear hf
  go_wp2_with fail
  refine (vertex_calls a.h c320 (by omega)).mono ?_
  rintro e w2 ⟨rfl, hf⟩
  rw [d2]
  have F2 := hid (F1.out.trans hf)
  replace c320 := hf.cell_some c320 (fun h => h)
  replace a0 := hf.cell_some a0 (fun h => h)
  replace a1 := hf.cell_some a1 (fun h => h)
  replace a2 := hf.cell_some a2 (fun h => h)
  replace ctk := hf.cell_some ctk (fun h => h)
  clear hf
  go_wp2_with fail
  refine (weight_calls a.w _).mono ?_
  rintro e w3 ⟨rfl, rfl⟩
  rw [d3]
  go_wp2
  go_ret
  exact ⟨rfl, F2.out⟩

/-- An insertion into a graph that may have 64 arcs. -/
theorem ginsert_calls {w : World} {L : GLoc} {G : Gr} (h : GMem w L G) (hm : G.most = 64) (id : Int) (a : Arc4) :
    Calls Tryd.prog 105 #[.pointer (some ⟨L.b, 0, none⟩), .int .i64 id, .agg #[.int .i64 a.t, .int .i64 a.h, .int .i64 a.w, .bool a.c]] w fun e w' => e = .returned (.int .i64 (G.icode id a)) ∧ ∃ L' : GLoc, GMem w' L' (G.put id a) ∧ L'.b = L.b ∧ Fr (L.own G.n) w w' ∧ ∀ j, L'.own G.n j → L.own G.n j ∨ w.heap.size ≤ j := by
  have no : ∀ c : Int, G.icode id a = c → c ≠ 0 → Calls Tryd.prog 105 #[.pointer (some ⟨L.b, 0, none⟩), .int .i64 id, .agg #[.int .i64 a.t, .int .i64 a.h, .int .i64 a.w, .bool a.c]] w (fun e w' => e = .returned (.int .i64 c) ∧ Fr No w w') →
      Calls Tryd.prog 105 #[.pointer (some ⟨L.b, 0, none⟩), .int .i64 id, .agg #[.int .i64 a.t, .int .i64 a.h, .int .i64 a.w, .bool a.c]] w fun e w' => e = .returned (.int .i64 (G.icode id a)) ∧ ∃ L' : GLoc, GMem w' L' (G.put id a) ∧ L'.b = L.b ∧ Fr (L.own G.n) w w' ∧ ∀ j, L'.own G.n j → L.own G.n j ∨ w.heap.size ≤ j := by
    intro c ec hc hcalls
    refine hcalls.mono ?_
    rintro e w' ⟨rfl, hf⟩
    refine ⟨by rw [ec], L, ?_, rfl, hf.no, fun j hj => .inl hj⟩
    rw [show G.put id a = G from by unfold Gr.put; rw [ec]; exact if_neg hc]
    exact h.no hf
  by_cases h0 : 0 ≤ id ∧ id < 64
  · by_cases h1 : 0 ≤ a.t ∧ a.t < G.n
    · by_cases h2 : 0 ≤ a.h ∧ a.h < G.n
      · by_cases h3 : 1 ≤ a.w ∧ a.w ≤ 4611686018427387904
        · have hok : (0 ≤ id ∧ id < 64) ∧ G.okA a := ⟨h0, h1, h2, h3⟩
          cases htk : G.tk id.toNat with
          | true => exact no 4 (by unfold Gr.icode; rw [if_pos hok, if_pos htk]) (by omega) (gins_n4 h id a h0 h1 h2 h3 htk)
          | false =>
            have ec : G.icode id a = 0 := by unfold Gr.icode; rw [if_pos hok, htk]; rfl
            have hcnt : G.cnt < G.most := by
              have hc := G.ins_cnt id.toNat a (by omega) htk
              have hl : (G.ins id.toNat a).cnt ≤ 64 := sel_len _
              omega
            have hc := gins_yes h id.toNat (by omega) a.t.toNat a.h.toNat a.w a.c (by omega) (by omega) h3.1 h3.2 htk hcnt
            rw [show ((id.toNat : Nat) : Int) = id by omega, show ((a.t.toNat : Nat) : Int) = a.t by omega, show ((a.h.toNat : Nat) : Int) = a.h by omega] at hc
            refine hc.mono ?_
            rintro e w' ⟨rfl, L', h5, h6, h7, h8, h9⟩
            refine ⟨by rw [ec], L', ?_, h6, h8, h9⟩
            rw [show G.put id a = G.ins id.toNat a from by unfold Gr.put; rw [ec]; rfl]
            exact h5
        · exact no 1 (by unfold Gr.icode; rw [if_neg (fun hh => h3 hh.2.2.2)]) (by omega) (gins_n3 h id a h0 h1 h2 h3)
      · exact no 1 (by unfold Gr.icode; rw [if_neg (fun hh => h2 hh.2.2.1)]) (by omega) (gins_n2 h id a h0 h1 h2)
    · exact no 1 (by unfold Gr.icode; rw [if_neg (fun hh => h1 hh.2.1)]) (by omega) (gins_n1 h id a h0 h1)
  · exact no 1 (by unfold Gr.icode; rw [if_neg (fun hh => h0 hh.1)]) (by omega) (gins_n0 h id a h0)

/-- A change: its kind, its place, its arc. -/
structure Chg where
  kd : Int
  id : Int
  a : Arc4
def Chg.val (c : Chg) : Value := .agg #[.int .i64 c.kd, .int .i64 c.id, .int .i64 c.a.t, .int .i64 c.a.h, .int .i64 c.a.w, .bool c.a.c]
def Gr.scode (G : Gr) (c : Chg) : Int := if c.kd = 0 then G.icode c.id c.a else if c.kd = 1 then G.code c.id else if c.kd = 2 then G.tcode c.id true else if c.kd = 3 then G.tcode c.id false else G.wcode c.id c.a.w
def Gr.step (G : Gr) (c : Chg) : Gr := if c.kd = 0 then G.put c.id c.a else if c.kd = 1 then G.rm c.id else if c.kd = 2 then G.tn c.id true else if c.kd = 3 then G.tn c.id false else G.wt c.id c.a.w
/-- The graph has become another one. -/
def GStep (w : World) (L : GLoc) (n : Nat) (w' : World) (G' : Gr) : Prop := ∃ L' : GLoc, GMem w' L' G' ∧ L'.b = L.b ∧ Fr (L.own n) w w' ∧ ∀ j, L'.own n j → L.own n j ∨ w.heap.size ≤ j
theorem GStep.same {w w' : World} {L : GLoc} {n : Nat} {G' : Gr} (h : GMem w' L G') (hf : Fr (L.own n) w w') : GStep w L n w' G' := ⟨L, h, rfl, hf, fun j hj => .inl hj⟩

structure ChgAt (w : World) (b o : Nat) (c : Chg) : Prop where
  k : w.cell? ⟨b, o, none⟩ = some (.int .i64 c.kd)
  i : w.cell? ⟨b, o + 1, none⟩ = some (.int .i64 c.id)
  t : w.cell? ⟨b, o + 2, none⟩ = some (.int .i64 c.a.t)
  h : w.cell? ⟨b, o + 2 + 1, none⟩ = some (.int .i64 c.a.h)
  w_ : w.cell? ⟨b, o + 2 + 2, none⟩ = some (.int .i64 c.a.w)
  c_ : w.cell? ⟨b, o + 2 + 3, none⟩ = some (.bool c.a.c)
theorem ChgAt.fr {w w' : World} {b o : Nat} {c : Chg} (h : ChgAt w b o c) {F : Nat → Prop} (hf : Fr F w w') (hb : ¬ F b) : ChgAt w' b o c :=
  ⟨hf.cell_some h.k hb, hf.cell_some h.i hb, hf.cell_some h.t hb, hf.cell_some h.h hb, hf.cell_some h.w_ hb, hf.cell_some h.c_ hb⟩
/-- A slice of changes that is read. -/
def ChgsF (w : World) (A : Option Addr) (n : Nat) (f : Nat → Chg) : Prop :=
  0 < n → ∃ b off, A = some ⟨b, off, none⟩ ∧ ∀ j, j < n → ChgAt w b (off + j * 6) (f j)
theorem ChgsF.fr {w w' : World} {A : Option Addr} {n : Nat} {f : Nat → Chg} (h : ChgsF w A n f) (hf : Fr No w w') : ChgsF w' A n f := fun h0 => by
  obtain ⟨b, off, e, hc⟩ := h h0
  exact ⟨b, off, e, fun j hj => (hc j hj).fr hf (fun h => h)⟩
/-- A graph behind k changes. -/
def Gr.steps (G : Gr) (f : Nat → Chg) : Nat → Gr
  | 0 => G
  | k + 1 => (G.steps f k).step (f k)

end Go.Proofs.YtlncmnphjdeeoaaDoor
