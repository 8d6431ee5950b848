/- Both indices behind links that are set: the laws' 'Made'; walked. -/
import Derived.StillTailTactics
import Derived.Deep.RegionLaw
import Derived.Test.YtoepbhacpidcbaaGreatDoorQBase
import Derived.Test.YtoepbhacpidcbaaGreatDoorQIdx
import Derived.Test.YtoepbhacpidcbaaGreatDoorQPerm
import Derived.Test.YtoepbhacpidcbaaGreatDoorQIdxB
import Derived.Test.YtoepbhacpidcbaaGreatDoorQRef

set_option linter.unusedVariables false
set_option linter.unusedSimpArgs false
namespace Go.Proofs.YtoepbhacpidcbaaGreatDoor
open Go.RowKit Go.Deep

/-- A link. -/
structure Lk where
  t : Int
  h : Int
  e : En

structure LkAt (w : World) (b o : Nat) (l : Lk) : Prop where
  t : w.cell? ⟨b, o, Option.none⟩ = some (.int .i64 l.t)
  h : w.cell? ⟨b, o + 1, Option.none⟩ = some (.int .i64 l.h)
  w0 : w.cell? ⟨b, o + 2, Option.none⟩ = some (.int .i64 l.e.w)
  a : w.cell? ⟨b, o + 2 + 1, Option.none⟩ = some (.int .i64 l.e.a)
  m : w.cell? ⟨b, o + 2 + 2, Option.none⟩ = some (.int .i64 l.e.m)
theorem LkAt.fr {w w' : World} {b o : Nat} {l : Lk} (h : LkAt w b o l) {F : Nat → Prop} (hf : Fr F w w') (hb : ¬ F b) : LkAt w' b o l :=
  ⟨hf.cell_some h.t hb, hf.cell_some h.h hb, hf.cell_some h.w0 hb, hf.cell_some h.a hb, hf.cell_some h.m hb⟩

/-- A slice of links that is read. -/
def LinksF (w : World) (A : Option Addr) (n : Nat) (f : Nat → Lk) : Prop :=
  0 < n → ∃ b off, A = some ⟨b, off, none⟩ ∧ ∀ j, j < n → LkAt w b (off + j * 5) (f j)

theorem Ix.setI_n (x : Ix) (u v : Int) (e : En) : (x.setI u v e).n = x.n := by unfold Ix.setI; split <;> rfl
theorem Ix.setI_rk (x : Ix) (u v : Int) (e : En) : (x.setI u v e).rk = x.rk := by unfold Ix.setI; split <;> rfl
theorem Ix.setI_by (x : Ix) (u v : Int) (e : En) : (x.setI u v e).by_ = x.by_ := by unfold Ix.setI; split <;> rfl
set_option maxHeartbeats 1000000 in
theorem rank_law_calls (n num : Nat) (w : World) (hn : n ≤ 255) (hnum : (num : Int) ≤ 18446744073709551615) :
    Calls Tryz.prog 27 #[.int .u8 (n : Nat), .int .u64 (num : Nat)] w fun e w' => ∃ b, e = .returned (.slice (some ⟨b, 0, none⟩) (1 + n % 24) (1 + n % 24)) ∧ Fr No w w' ∧ w.heap.size ≤ b ∧
      Blk w' b (1 + n % 24) 3 (fun i => .int .i64 (rankOf (1 + n % 24) num i : Nat)) := by
  have h1 : n % 24 < 24 := Nat.mod_lt _ (by omega)
  go_enter Tryz.func27, Tryz.ntmps27
  go_wp2_with fail
  rw [show ((1 : Int) + (n : Int) % 24) = ((1 + n % 24 : Nat) : Int) by omega]
  refine (of_calls (1 + n % 24) num _ (by omega) (by omega) hnum).mono ?_
  rintro e w1 ⟨b, rfl, hf, hb, hblk⟩
  go_wp2
  go_ret
  exact ⟨b, rfl, hf, hb, hblk⟩

/-- The order of a number as an inverse pair. -/
theorem rank_perm (n num : Nat) (h0 : 0 < n) (h1 : n ≤ 24) : PermF n (fun i => ((rankOf n num i : Nat) : Int)) :=
  ⟨h1, fun j hj => by have := rankOf_lt n num j hj; show (0 : Int) ≤ (rankOf n num j : Nat) ∧ ((rankOf n num j : Nat) : Int) < n; omega, fun i j hij hj e => by have e' : ((rankOf n num i : Nat) : Int) = (rankOf n num j : Nat) := e; have := rankOf_inj n num i j (by omega) hj (by omega); omega⟩

end Go.Proofs.YtoepbhacpidcbaaGreatDoor

/- Appending to a new, empty row: small words. -/
set_option linter.unusedVariables false
set_option linter.unusedSimpArgs false
namespace Go.Proofs.YtoepbhacpidcbaaGreatDoor
open Go.RowKit Go.Deep

theorem heap_alloc2 (w : World) (a b : Obj) : ((w.alloc a).alloc b).heap[w.heap.size]? = some a := by
  rw [Below.heap_alloc _ _ _ (by simp)]; exact heap_new w a
theorem heap_alloc2' (w : World) (a b : Obj) : ((w.alloc a).alloc b).heap[w.heap.size + 1]? = some b := by
  have := heap_new (w.alloc a) b
  rwa [World.size_alloc] at this
theorem news_of_heap {w : World} {b : Nat} {v : Value} {T : TypeId} (hb : w.heap[b]? = some (.cells #[v] T)) : ∀ j u, [v][j]? = some u → w.cell? ((⟨b, 0, none⟩ : Addr).add j) = some u := by
  intro j u hu
  match j, hu with
  | 0, hu => simp at hu; subst hu; rw [Addr.add_mid, cell_of hb]; rfl
/-- A row of numbers of one's own, as a list. -/
theorem own_list {w : World} {base e g n cap : Nat} {l : List Int} (h : w.ownsRow base e 1 (.slice (some ⟨g, 0, none⟩) n cap) n (l.map (Value.int .i64))) :
    base ≤ g ∧ g < w.heap.size ∧ l.length = n ∧ n ≤ cap ∧ (∀ j, j < n → w.cell? ⟨g, j, none⟩ = some (.int .i64 (l.getD j 0))) := by
  have hl := h.lt g rfl
  have hc := h.cells (g := g) rfl
  have hn : l.length = n := by have := h.1; simp at this; exact this
  refine ⟨hl.1, hl.2, hn, ?_, fun j hj => ?_⟩
  · obtain ⟨_, h | ⟨g', cap', cur, e1, _, _, h1, h2, _⟩⟩ := h
    · cases h.1
    · simp only [Value.slice.injEq] at e1; omega
  · have := hc j (.int .i64 (l.getD j 0)) (by rw [List.getElem?_map, List.getElem?_eq_getElem (by omega)]; simp [List.getElem?_eq_getElem (show j < l.length by omega)])
    rwa [Addr.add_mid, Nat.zero_add] at this


theorem some_lt {w : World} {k : Nat} {ob : Obj} (h : w.heap[k]? = some ob) : k < w.heap.size := by
  rcases Nat.lt_or_ge k w.heap.size with h' | h'
  · exact h'
  · rw [Array.getElem?_eq_none h'] at h; cases h
/-- One number appended to a row of one's own that may be nil. -/
theorem wpList_push {w : World} {ops : Array Oper} {rest : List Oper} {o : Oper} {a : Act} {Q : Exit → Act → World → Prop} (s x : Operand)
    (v : Value) (l : List Int) (b c : Nat) (y : Int) (hgd : o.guard = none) (ho : o.op = .call { callee := .builtin .append, args := #[s, x], argTypes := #[34, 34] })
    (hs : a.eval s = v) (hx : a.eval x = .slice (some ⟨b, 0, none⟩) 1 c)
    (base : Nat) (hown : w.ownsRow base 3 1 v l.length (l.map (Value.int .i64))) (hbase : base ≤ w.heap.size)
    (hnew : w.cell? ⟨b, 0, none⟩ = some (.int .i64 y)) (hb : l.length ≤ 17592186043900)
    (h : ∀ g cap w', w'.ownsRow base 3 1 (.slice (some ⟨g, 0, none⟩) (l ++ [y]).length cap) (l ++ [y]).length ((l ++ [y]).map (Value.int .i64)) → w.grownBy w' v.ownBlock → (v.ownBlock = some g ∨ g = w.heap.size) → g < w'.heap.size → wpList Tryz.prog ops Q rest (a.put o.dst (.slice (some ⟨g, 0, none⟩) (l ++ [y]).length cap)) w') :
    wpList Tryz.prog ops Q (o :: rest) a w := by
  obtain ⟨i0, hi, hz0, hz1, hz2⟩ := i_int
  refine wpList_append_lies w hgd s x 34 ho base 3 i0 (.int .i64 0) 1 8 Tryz.underlying34 hi hz0 hz1 hz2 rfl (by decide) v l.length _ hs hown ⟨b, 0, none⟩ 1 c [.int .i64 y] hx rfl ?_ ?_ (by decide) (by unfold maxLen; omega) (by omega) hbase w.heap.size rfl ?_
  · intro j u hu
    match j, hu with
    | 0, hu => simp at hu; subst hu; rw [Addr.add_mid]; exact hnew
  · intro u hu; simp at hu; subst hu; rfl
  · intro g cap w' h1 h2 h3 h4
    have hl : (l ++ [y]).length = l.length + 1 := by simp
    have := h g cap w' (by rw [hl]; simpa using h1) h2 h3 h4
    rwa [hl] at this


end Go.Proofs.YtoepbhacpidcbaaGreatDoor

/- Appending a list of numbers to a row of one's own. -/
set_option linter.unusedVariables false
set_option linter.unusedSimpArgs false
namespace Go.Proofs.YtoepbhacpidcbaaGreatDoor
open Go.RowKit Go.Deep

/-- The block of a row of one's own. -/
theorem own_block {w : World} {base n size c : Nat} {e : TypeId} {A : Option Addr} {xs : List Value} (h : w.ownsRow base e size (.slice A n c) n xs) : ∀ k, (Value.slice A n c).ownBlock = some k → base ≤ k ∧ k < w.heap.size := fun k hk => h.lt k hk

end Go.Proofs.YtoepbhacpidcbaaGreatDoor
/- Unpacking as plain mathematics: an entry's arcs; how deep it goes. -/
set_option linter.unusedVariables false
set_option linter.unusedSimpArgs false
namespace Go.Proofs.YtoepbhacpidcbaaGreatDoor
open Go.RowKit

/-- Each entry may be there. -/
def Ix.Fit (x : Ix) : Prop := ∀ u v : Nat, x.two u v = true → x.May u v (x.ent u v)

theorem Ix.May_congr {x y : Ix} (hn : x.n = y.n) (hr : x.rk = y.rk) (u v : Int) (e : En) : x.May u v e ↔ y.May u v e := by
  have : ∀ z, x.rank z = y.rank z := fun z => by simp only [Ix.rank, hn, hr]
  simp only [Ix.May, this]
theorem Ix.two_congr {x y : Ix} (hn : x.n = y.n) (u v : Int) : x.two u v = y.two u v := by simp only [Ix.two, hn]

theorem Ix.Fit.setI {x : Ix} (h : x.Fit) (u v : Int) (e : En) : (x.setI u v e).Fit := fun a b hab => by
  have hn := Ix.setI_n x u v e
  have hr := Ix.setI_rk x u v e
  rw [Ix.May_congr hn hr]
  rw [Ix.two_congr hn] at hab
  unfold Ix.setI
  split
  · rename_i hc
    simp only [Ix.set]
    split
    · rename_i he
      obtain ⟨rfl, rfl⟩ := he
      obtain ⟨_, h1, _, h2, _⟩ := two_iff hc.1
      rw [Int.toNat_of_nonneg h1, Int.toNat_of_nonneg h2]
      exact hc.2
    · exact h a b hab
  · exact h a b hab
theorem Ix.Fit.new (n : Nat) (f : Nat → Int) (g : Nat → Nat) : (Ix.new n f g).Fit := fun u v _ => .inl ⟨rfl, rfl, rfl⟩
/-- An entry from one vertex to another one: none, an arc, or by way of a lower vertex. -/
theorem Ix.Fit.cases {x : Ix} (h : x.Fit) (hok : x.Ok) (u v : Int) : x.at_ u v = En.none ∨
    ((x.at_ u v).w ≤ 4611686018427387905 ∧ 1 ≤ (x.at_ u v).w ∧ x.two u v = true ∧
      (((x.at_ u v).m = -1 ∧ 0 ≤ (x.at_ u v).a ∧ (x.at_ u v).a < 64) ∨
       ((x.at_ u v).a = -1 ∧ 0 ≤ (x.at_ u v).m ∧ (x.at_ u v).m < x.n ∧ x.rk (x.at_ u v).m.toNat < x.rk u.toNat ∧ x.rk (x.at_ u v).m.toNat < x.rk v.toNat))) := by
  cases ht : x.two u v with
  | false => exact .inl (by simp [Ix.at_, ht])
  | true =>
    have e : x.at_ u v = x.ent u.toNat v.toNat := by simp [Ix.at_, ht]
    obtain ⟨hne, h1, h2, h3, h4⟩ := two_iff ht
    have hm := h u.toNat v.toNat (by rw [Int.toNat_of_nonneg h1, Int.toNat_of_nonneg h3]; exact ht)
    rw [← e, Int.toNat_of_nonneg h1, Int.toNat_of_nonneg h3] at hm
    have ru : x.rank u = x.rk u.toNat := if_pos ⟨h1, h2⟩
    have rv : x.rank v = x.rk v.toNat := if_pos ⟨h3, h4⟩
    rcases hm with ⟨a, b, c⟩ | ⟨a, b, ⟨c, d, f⟩ | ⟨c, d, f, g, k⟩⟩
    · left; cases hx : x.at_ u v; rw [hx] at a b c; simp only at a b c; rw [a, b, c]; rfl
    · exact .inr ⟨b, a, rfl, .inl ⟨c, d, f⟩⟩
    · have hv : 0 ≤ (x.at_ u v).m ∧ (x.at_ u v).m < x.n := by
        unfold Ix.rank at f; split at f
        · assumption
        · omega
      have rm : x.rank (x.at_ u v).m = x.rk (x.at_ u v).m.toNat := if_pos hv
      refine .inr ⟨b, a, rfl, .inr ⟨d, hv.1, hv.2, ?_, ?_⟩⟩ <;> omega

/-- The arcs of an entry behind others, and the code (3: there is none, 9: too many). -/
def Ix.add (x : Ix) : Nat → Int → Int → List Int → List Int × Int
  | 0, _, _, _ => ([], 3)
  | f + 1, u, v, l =>
    if x.at_ u v = En.none then ([], 3)
    else if (x.at_ u v).m < 0 then (if 23 ≤ l.length then ([], 9) else (l ++ [(x.at_ u v).a], 0))
    else if (x.add f u (x.at_ u v).m l).2 ≠ 0 then ([], (x.add f u (x.at_ u v).m l).2)
    else x.add f (x.at_ u v).m v (x.add f u (x.at_ u v).m l).1

end Go.Proofs.YtoepbhacpidcbaaGreatDoor

/- The document's unpacking of an entry; walked. -/
set_option linter.unusedVariables false
set_option linter.unusedSimpArgs false
namespace Go.Proofs.YtoepbhacpidcbaaGreatDoor
open Go.RowKit Go.Deep
attribute [local go_sem ↓] Go.wp_at_zero Go.wp_at_succ
attribute [local go_sem high] run_eql_en run_neq_en

/-- A slice value that reads as a list: nil of the empty one. -/
def SlL (w : World) (v : Value) (l : List Int) : Prop :=
  (l = [] ∧ v = .slice none 0 0) ∨ (∃ b off c, 0 < l.length ∧ v = .slice (some ⟨b, off, none⟩) l.length c ∧ ∀ j, j < l.length → w.cell? ⟨b, off + j, none⟩ = some (.int .i64 (l.getD j 0)))
theorem SlL.fr {w w' : World} {v : Value} {l : List Int} (h : SlL w v l) (hf : Fr No w w') : SlL w' v l := by
  rcases h with h | ⟨b, off, c, h0, e, hc⟩
  · exact .inl h
  · exact .inr ⟨b, off, c, h0, e, fun j hj => hf.cell_some (hc j hj) (fun h => h)⟩
theorem SlL.nil (w : World) : SlL w (.slice none 0 0) [] := .inl ⟨rfl, rfl⟩

end Go.Proofs.YtoepbhacpidcbaaGreatDoor

/- The document's unpacking of an entry, whole; walked. -/
set_option linter.unusedVariables false
set_option linter.unusedSimpArgs false
namespace Go.Proofs.YtoepbhacpidcbaaGreatDoor
open Go.RowKit Go.Deep
attribute [local go_sem ↓] Go.wp_at_zero Go.wp_at_succ
attribute [local go_sem high] run_eql_en run_neq_en

end Go.Proofs.YtoepbhacpidcbaaGreatDoor
