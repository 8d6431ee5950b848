/- What awakes the laws of layer 1: two texts read, a distance told; walked. -/
import Derived.Test.YthflnhnhdgegdaaDoorDd
import Derived.Lib.ConvBytes
set_option linter.unusedVariables false
set_option linter.unusedSimpArgs false
namespace Go.Proofs.YthflnhnhdgegdaaDoor
open Go.RowKit

theorem bytes_fr (w : World) (e : TypeId) (s : ByteArray) : Fr No w (Lib.bytesWorld w e s) :=
  ⟨rfl, rfl, rfl, by rw [Lib.bytesWorld_size]; omega, fun k hk _ => Lib.bytesWorld_at_old w e s k hk⟩

/-- The text '17', and '017': the number so far. -/
def n17 (k : Nat) : Int := if k = 0 then 0 else if k = 1 then 1 else 17
def n017 (k : Nat) : Int := if k ≤ 1 then 0 else if k = 2 then 1 else 17

set_option maxRecDepth 100000 in
set_option maxHeartbeats 1000000 in
theorem iatoi2_calls (w : World) : Calls Tryd.prog 29 #[.string ⟨#[49, 55]⟩] w fun e w' => e = .returned (.tuple #[.int .i64 17, .nilIface]) ∧ Fr No w w' := by
  have kc := Lib.run_convert_string_bytes (P := Tryd.prog) w 9 43 5 ⟨#[49, 55]⟩ Tryd.underlying9 Tryd.underlying43 Tryd.underlying5
  have c0 := Lib.bytesWorld_cell w 5 ⟨#[49, 55]⟩ 0 (by decide)
  have c1 := Lib.bytesWorld_cell w 5 ⟨#[49, 55]⟩ 1 (by decide)
  have hf := bytes_fr w 5 ⟨#[49, 55]⟩
  obtain ⟨W2, hW2⟩ : ∃ W2, Lib.bytesWorld w 5 ⟨#[49, 55]⟩ = W2 := ⟨_, rfl⟩
  obtain ⟨G, hG⟩ : ∃ G, grownCap w (ByteArray.size ⟨#[49, 55]⟩) 0 5 = G := ⟨_, rfl⟩
  rw [hW2] at kc c0 c1 hf
  rw [hG] at kc
  have d0 : W2.cell? ⟨w.heap.size, 0, none⟩ = some (.int .u8 49) := c0
  have d1 : W2.cell? ⟨w.heap.size, 1, none⟩ = some (.int .u8 55) := c1
  have kc2 : (convert 9 43 (.string ⟨#[49, 55]⟩)).run Tryd.prog w = .ok (.slice (some ⟨w.heap.size, 0, none⟩) 2 G) W2 := kc
  have HF := hid hf
  have e0 : ((⟨#[49, 55]⟩ : ByteArray)[0]).toNat = 49 := by decide
  clear kc c0 c1 hf hW2 hG
  go_enter Tryd.func29, Tryd.ntmps29
  go_wp2
  go_loopg [6, 49] 2 (fun g p q wr => ∃ k : Nat, q = .int .i64 k ∧ k ≤ 2 ∧ p = .int .i64 (n17 k) ∧ g = 2 - k ∧ wr = W2)
  case atStart => exact ⟨0, rfl, by omega, rfl, rfl, rfl⟩
  case round =>
    obtain ⟨k, rfl, hk, rfl, hg, rfl⟩ := hrel
    have HG := hid hg
    clear hg
    have h3 : k = 0 ∨ k = 1 ∨ k = 2 := by omega
    rcases h3 with rfl | rfl | rfl
    · have e : n17 0 = 0 := rfl
      rw [e]
      go_wp2
      go_roundg 1
      case measure => have := HG.out; omega
      case rel => exact ⟨1, by go_num, by omega, rfl, rfl, rfl⟩
    · have e : n17 1 = 1 := rfl
      rw [e]
      go_wp2
      go_roundg 0
      case measure => have := HG.out; omega
      case rel => exact ⟨2, by go_num, by omega, rfl, rfl, rfl⟩
    · have e : n17 2 = 17 := rfl
      rw [e]
      go_wp2
      go_ret2
      exact ⟨rfl, HF.out⟩

set_option maxRecDepth 100000 in
set_option maxHeartbeats 1000000 in
theorem iatoi3_calls (w : World) : Calls Tryd.prog 29 #[.string ⟨#[48, 49, 55]⟩] w fun e w' => e = .returned (.tuple #[.int .i64 17, .nilIface]) ∧ Fr No w w' := by
  have kc := Lib.run_convert_string_bytes (P := Tryd.prog) w 9 43 5 ⟨#[48, 49, 55]⟩ Tryd.underlying9 Tryd.underlying43 Tryd.underlying5
  have c0 := Lib.bytesWorld_cell w 5 ⟨#[48, 49, 55]⟩ 0 (by decide)
  have c1 := Lib.bytesWorld_cell w 5 ⟨#[48, 49, 55]⟩ 1 (by decide)
  have c2 := Lib.bytesWorld_cell w 5 ⟨#[48, 49, 55]⟩ 2 (by decide)
  have hf := bytes_fr w 5 ⟨#[48, 49, 55]⟩
  obtain ⟨W2, hW2⟩ : ∃ W2, Lib.bytesWorld w 5 ⟨#[48, 49, 55]⟩ = W2 := ⟨_, rfl⟩
  obtain ⟨G, hG⟩ : ∃ G, grownCap w (ByteArray.size ⟨#[48, 49, 55]⟩) 0 5 = G := ⟨_, rfl⟩
  rw [hW2] at kc c0 c1 c2 hf
  rw [hG] at kc
  have d0 : W2.cell? ⟨w.heap.size, 0, none⟩ = some (.int .u8 48) := c0
  have d1 : W2.cell? ⟨w.heap.size, 1, none⟩ = some (.int .u8 49) := c1
  have d2 : W2.cell? ⟨w.heap.size, 2, none⟩ = some (.int .u8 55) := c2
  have kc2 : (convert 9 43 (.string ⟨#[48, 49, 55]⟩)).run Tryd.prog w = .ok (.slice (some ⟨w.heap.size, 0, none⟩) 3 G) W2 := kc
  have HF := hid hf
  have e0 : ((⟨#[48, 49, 55]⟩ : ByteArray)[0]).toNat = 48 := by decide
  clear kc c0 c1 c2 hf hW2 hG
  go_enter Tryd.func29, Tryd.ntmps29
  go_wp2
  go_loopg [6, 49] 3 (fun g p q wr => ∃ k : Nat, q = .int .i64 k ∧ k ≤ 3 ∧ p = .int .i64 (n017 k) ∧ g = 3 - k ∧ wr = W2)
  case atStart => exact ⟨0, rfl, by omega, rfl, rfl, rfl⟩
  case round =>
    obtain ⟨k, rfl, hk, rfl, hg, rfl⟩ := hrel
    have HG := hid hg
    clear hg
    have h3 : k = 0 ∨ k = 1 ∨ k = 2 ∨ k = 3 := by omega
    rcases h3 with rfl | rfl | rfl | rfl
    · have e : n017 0 = 0 := rfl
      rw [e]
      go_wp2
      go_roundg 2
      case measure => have := HG.out; omega
      case rel => exact ⟨1, by go_num, by omega, rfl, rfl, rfl⟩
    · have e : n017 1 = 0 := rfl
      rw [e]
      go_wp2
      go_roundg 1
      case measure => have := HG.out; omega
      case rel => exact ⟨2, by go_num, by omega, rfl, rfl, rfl⟩
    · have e : n017 2 = 1 := rfl
      rw [e]
      go_wp2
      go_roundg 0
      case measure => have := HG.out; omega
      case rel => exact ⟨3, by go_num, by omega, rfl, rfl, rfl⟩
    · have e : n017 3 = 17 := rfl
      rw [e]
      go_wp2
      go_ret2
      exact ⟨rfl, HF.out⟩

set_option maxRecDepth 100000 in
set_option maxHeartbeats 1000000 in
theorem itoa17_calls (w : World) : Calls Tryd.prog 23 #[.int .i64 17] w fun e w' => e = .returned (.string ⟨#[49, 55]⟩) ∧ Fr No w w' := by
  go_enter Tryd.func23, Tryd.ntmps23
  go_wp2
  go_ret
  exact ⟨by kernel_rfl, Fr.refl _ _⟩

theorem run_eql_nilIface (w : World) : (binOp .neq 36 .nilIface .nilIface).run Tryd.prog w = .ok (.bool false) w := by kernel_rfl

set_option maxRecDepth 100000 in
set_option maxHeartbeats 1000000 in
theorem atoi2_calls (w : World) : Calls Tryd.prog 22 #[.string ⟨#[49, 55]⟩] w fun e w' => e = .returned (.tuple #[.int .i64 17, .nilIface]) ∧ Fr No w w' := by
  go_enter Tryd.func22, Tryd.ntmps22
  go_wp2_with fail
  refine (iatoi2_calls _).mono ?_
  rintro e w1 ⟨rfl, hf1⟩
  go_wp2
  go_ret2
  exact ⟨rfl, hf1⟩

set_option maxRecDepth 100000 in
set_option maxHeartbeats 1000000 in
theorem atoi3_calls (w : World) : Calls Tryd.prog 22 #[.string ⟨#[48, 49, 55]⟩] w fun e w' => e = .returned (.tuple #[.int .i64 17, .nilIface]) ∧ Fr No w w' := by
  go_enter Tryd.func22, Tryd.ntmps22
  go_wp2_with fail
  refine (iatoi3_calls _).mono ?_
  rintro e w1 ⟨rfl, hf1⟩
  go_wp2
  go_ret2
  exact ⟨rfl, hf1⟩

set_option maxRecDepth 100000 in
set_option maxHeartbeats 1000000 in
theorem parse17_calls (w : World) : Calls Tryd.prog 9 #[.string ⟨#[49, 55]⟩] w fun e w' => e = .returned (.tuple #[.int .i64 17, .bool true]) ∧ Fr No w w' := by
  go_enter Tryd.func9, Tryd.ntmps9
  go_wp2_with (first
    | (go_at_call 22; refine (atoi2_calls _).mono ?_; rintro e w1 ⟨rfl, hf1⟩; have HF1 := hid hf1; clear hf1)
    | (go_at_call 23; refine (itoa17_calls _).mono ?_; rintro e w2 ⟨rfl, hf2⟩; have HF2 := hid hf2; clear hf2))
  go_ret2
  exact ⟨rfl, HF1.out.trans HF2.out⟩

set_option maxRecDepth 100000 in
set_option maxHeartbeats 1000000 in
theorem parse017_calls (w : World) : Calls Tryd.prog 9 #[.string ⟨#[48, 49, 55]⟩] w fun e w' => e = .returned (.tuple #[.int .i64 0, .bool false]) ∧ Fr No w w' := by
  go_enter Tryd.func9, Tryd.ntmps9
  go_wp2_with (first
    | (go_at_call 22; refine (atoi3_calls _).mono ?_; rintro e w1 ⟨rfl, hf1⟩; have HF1 := hid hf1; clear hf1)
    | (go_at_call 23; refine (itoa17_calls _).mono ?_; rintro e w2 ⟨rfl, hf2⟩; have HF2 := hid hf2; clear hf2))
  go_ret2
  exact ⟨rfl, HF1.out.trans HF2.out⟩

set_option maxRecDepth 100000 in
set_option maxHeartbeats 1000000 in
theorem textfar_calls (w : World) : Calls Tryd.prog 11 #[.int .i64 4611686018427387905] w fun e w' => e = .returned (.string ⟨#[102, 97, 114]⟩) ∧ Fr No w w' := by
  have e : normI 4611686018427387905 = 4611686018427387905 := by decide
  go_enter Tryd.func11, Tryd.ntmps11
  go_wp2_with (go_at_call 15; refine (norm_calls _ _).mono ?_; rintro e w1 ⟨rfl, hf1⟩; rw [e])
  go_ret
  exact ⟨rfl, hf1⟩

end Go.Proofs.YthflnhnhdgegdaaDoor
