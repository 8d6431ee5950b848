/- The law 'BuildCloses' returns true, by the contracts; walked. -/
import Derived.Test.YtpkocidcfnlbiaaGreatDoorAw6
import Derived.Test.YtpkocidcfnlbiaaGreatDoorBcP
import Derived.Test.YtpkocidcfnlbiaaGreatDoorIns
import Derived.Test.YtpkocidcfnlbiaaGreatDoorG8
set_option linter.unusedVariables false
set_option linter.unusedSimpArgs false
namespace Go.Proofs.YtpkocidcfnlbiaaGreatDoor
open Go.RowKit Go.Deep

def Gr.rarc (G : Gr) (k : Nat) : Arc4 := if G.tk k then G.arc k else ⟨0, 0, 0, false⟩
set_option maxRecDepth 100000 in
set_option maxHeartbeats 1000000 in
theorem rgarc_calls {w : World} {b : Nat} {G : Gr} (h : RGM w b G) (k : Nat) (hk : k < 64) :
    Calls Tryz.prog 76 #[.pointer (some ⟨b, 0, none⟩), .int .i64 (k : Nat)] w fun e w' =>
      e = .returned (.tuple #[.agg #[.int .i64 (G.rarc k).t, .int .i64 (G.rarc k).h, .int .i64 (G.rarc k).w, .bool (G.rarc k).c], .bool (G.tk k)]) ∧ Fr No w w' := by
  have H := hid h
  have lb : b < w.heap.size := Blk.lt h
  have a0 : w.cell? ⟨b, 66 + k * 4, none⟩ = some (.int .i64 (G.arc k).t) := h.arc hk 0 (by omega)
  have a1 : w.cell? ⟨b, 66 + k * 4 + 1, none⟩ = some (.int .i64 (G.arc k).h) := h.arc hk 1 (by omega)
  have a2 : w.cell? ⟨b, 66 + k * 4 + 2, none⟩ = some (.int .i64 (G.arc k).w) := h.arc hk 2 (by omega)
  have a3 : w.cell? ⟨b, 66 + k * 4 + 3, none⟩ = some (.bool (G.arc k).c) := h.arc hk 3 (by omega)
  have hk2 : (k : Int) < 64 := by omega
  have hcode : G.code (k : Nat) = if G.tk k then 0 else 3 := by unfold Gr.code; rw [if_pos (by omega), Int.toNat_natCast]
  have f0 := (Fr.refl No w).alloc (.cells #[.int .i64 0, .int .i64 0, .int .i64 0, .bool false] 48)
  have HC := hid hcode
  have F0 := hid f0
  clear h hcode
  cases htk : G.tk k with
  | false =>
    have er : G.rarc k = ⟨0, 0, 0, false⟩ := by unfold Gr.rarc; rw [htk]; rfl
    rw [er]
    have HT := hid htk
    clear er htk a0 a1 a2 a3
    go_enter Tryz.func76, Tryz.ntmps76
    go_wp2_with fail
    refine (rgcode_calls (H.out.no F0.out) (k : Nat)).mono ?_
    rw [HC.out, HT.out]
    rintro e w1 ⟨rfl, rfl⟩
    go_wp2
    refine bodyPost_ret (v := .tuple #[.agg #[.int .i64 0, .int .i64 0, .int .i64 0, .bool false], .bool false]) (by simp [results, Tryz.results76, go_sem]) rfl ⟨rfl, ?_⟩
    (repeat (first | exact Fr.refl _ _ | apply Fr.drewN | apply Fr.drew | apply Fr.alloc | (refine Fr.setCell ?_ (.inr (Nat.le_refl _)) _)))
  | true =>
    have er : G.rarc k = G.arc k := by unfold Gr.rarc; rw [htk]; rfl
    rw [er]
    obtain ⟨⟨t, hd, wt, cl⟩, har⟩ : ∃ y, G.arc k = y := ⟨_, rfl⟩
    rw [har] at a0 a1 a2 a3 ⊢
    have HT := hid htk
    clear er htk har
    go_enter Tryz.func76, Tryz.ntmps76
    go_wp2_with fail
    refine (rgcode_calls (H.out.no F0.out) (k : Nat)).mono ?_
    rw [HC.out, HT.out]
    rintro e w1 ⟨rfl, rfl⟩
    go_wp2
    refine bodyPost_ret (v := .tuple #[.agg #[.int .i64 t, .int .i64 hd, .int .i64 wt, .bool cl], .bool true]) (by simp [results, Tryz.results76, go_sem]) rfl ⟨rfl, ?_⟩
    (repeat (first | exact Fr.refl _ _ | apply Fr.drewN | apply Fr.drew | apply Fr.alloc | (refine Fr.setCell ?_ (.inr (Nat.le_refl _)) _)))

theorem Gr.tn_most (G : Gr) (k : Nat) (c : Bool) : (G.tn (k : Nat) c).most = G.most := by unfold Gr.tn; split <;> rfl
theorem Gr.rm_most (G : Gr) (k : Nat) : (G.rm (k : Nat)).most = G.most := by unfold Gr.rm; split <;> rfl
theorem best_win {G : Gr} {u v : Int} {k : Nat} (h : (G.best u v).2 = (k : Int)) : (G.best u v).1 = (G.arc k).w := by
  rcases G.best_char u v with ⟨e, _⟩ | ⟨k', _, _, e, _⟩
  · rw [e] at h
    have h : (-1 : Int) = k := h
    omega
  · rw [e] at h ⊢
    have h : ((k' : Nat) : Int) = k := h
    have : k' = k := by omega
    rw [this]

end Go.Proofs.YtpkocidcfnlbiaaGreatDoor
