/- The document's 'Right' and 'May', walked. -/
import Derived.Test.YtpkocidcfnlbiaaGreatDoorSum
set_option linter.unusedVariables false
set_option linter.unusedSimpArgs false
namespace Go.Proofs.YtpkocidcfnlbiaaGreatDoor
open Go.RowKit Go.Deep

set_option maxRecDepth 100000 in
set_option maxHeartbeats 2000000 in
theorem rright_calls (A : Option Addr) (n c : Nat) (f : Nat → Int) (w : World) (h : IntsF w A n f) (hn : n ≤ 140737488351232) (d : Bool) (hd : d = true ↔ PermF n f) :
    Calls Tryz.prog 62 #[.slice A n c] w fun e w' => e = .returned (.bool d) ∧ Fr No w w' := by
  by_cases hbig : 24 < n
  · have e : d = false := by
      cases d with
      | false => rfl
      | true => have := (hd.1 rfl).1; omega
    subst e
    clear hd
    go_enter Tryz.func62, Tryz.ntmps62
    go_wp2
    go_ret
    exact ⟨rfl, Fr.refl _ _⟩
  · have hi := right_iff f n (by omega)
    rw [← hi] at hd
    have HD := hid hd
    have H := hid h
    clear hi hd h
    go_enter Tryz.func62, Tryz.ntmps62
    go_wp2
    go_loopg [3] n (fun g p wr => ∃ r : Nat, p = .int .i64 r ∧ r ≤ n ∧ g = n - r ∧ wr = w ∧ ∀ i, i < r → cntF f (i : Nat) n = 1)
    case atStart => exact ⟨0, rfl, Nat.zero_le _, rfl, rfl, fun i hi => by omega⟩
    case round =>
      obtain ⟨r, rfl, hr, hg, rfl, hall⟩ := hrel
      have HG := hid hg
      have HA := hid hall
      clear hg hall
      by_cases hlt : r < n
      · have hlt2 : (r : Int) < n := by omega
        go_wp2
        go_loopg [4, 5] n (fun g p q wq => ∃ v : Nat, q = .int .i64 v ∧ v ≤ n ∧ p = .int .i64 (cntF f (r : Nat) v : Nat) ∧ g = n - v ∧ wq = wr)
        case atStart => exact ⟨0, rfl, Nat.zero_le _, rfl, rfl, rfl⟩
        case round =>
          obtain ⟨v, rfl, hv, rfl, hg2, rfl⟩ := hrel
          have HG2 := hid hg2
          clear hg2
          have hle := cntF_le f (r : Nat) v
          by_cases hltv : v < n
          · have hltv2 : (v : Int) < n := by omega
            obtain ⟨b, off, rfl, hc⟩ := H.out (by omega)
            have hck := hc v hltv
            clear hc
            have hs : cntF f (r : Nat) (v + 1) = cntF f (r : Nat) v + if f v = (r : Nat) then 1 else 0 := rfl
            by_cases he : f v = (r : Nat)
            · rw [if_pos he] at hs
              have HS := hid hs
              rw [he] at hck
              clear hs
              go_wp2
              go_roundg (n - (v + 1))
              case measure => have := HG2.out; omega
              case rel => exact ⟨v + 1, by go_num, hltv, by rw [HS.out]; go_num, rfl, rfl⟩
            · rw [if_neg he] at hs
              have HS := hid hs
              have he2 : (f v == (r : Int)) = false := by simpa using he
              clear hs
              go_wp2
              go_roundg (n - (v + 1))
              case measure => have := HG2.out; omega
              case rel => exact ⟨v + 1, by go_num, hltv, by rw [HS.out, Nat.add_zero], rfl, rfl⟩
          · have e : v = n := by omega
            subst e
            by_cases h1 : cntF f (r : Nat) v = 1
            · have H1 := hid h1
              rw [h1]
              clear h1 hle
              go_wp2
              go_roundg (v - (r + 1))
              case measure => have := HG.out; omega
              case rel =>
                refine ⟨r + 1, by go_num, hlt, rfl, rfl, fun i hi => ?_⟩
                rcases Nat.lt_or_ge i r with h2 | h2
                · exact HA.out i h2
                · obtain rfl : i = r := by omega
                  exact H1.out
            · have e : d = false := by
                cases d with
                | false => rfl
                | true => exact absurd (HD.out.1 rfl r hlt) h1
              subst e
              have h2 : (((cntF f (r : Nat) v : Nat) : Int) == 1) = false := by simp; omega
              clear HD
              go_wp2
              go_ret
              exact ⟨rfl, Fr.refl _ _⟩
      · have e : r = n := by omega
        subst e
        have e : d = true := HD.out.2 HA.out
        subst e
        clear HD
        go_wp2
        go_ret
        exact ⟨rfl, Fr.refl _ _⟩

end Go.Proofs.YtpkocidcfnlbiaaGreatDoor
