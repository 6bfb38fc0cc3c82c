/- EpochsStay: the map beside the store. -/
import Derived.Test.YthcbhmgjkecppaaVc
import Derived.Maps.OwnSet
import Derived.Maps.RangeWalk
import Derived.Maps.StringElems
set_option maxRecDepth 100000
set_option linter.unusedSimpArgs false
set_option linter.unusedVariables false
namespace Go.X.Try
open Go.X Go.Maps Go.Proofs Go.RowKit
/-- The map reads as what the store holds. -/
structure MapR (D : DataW Unit) (E : List En) : Prop where
  at_ : ∀ (x : Int) (zd : DataW Unit), D.atKey (.int .i64 x) zd = match hm E x with | some t => .lit (.string t.data.toList) | none => zd
  has : ∀ x : Int, Maps.has D (.int .i64 x) = (hm E x).isSome
  size : Maps.size D = hcn E
theorem MapR.none : MapR (.map []) [] := ⟨fun x zd => rfl, fun x => rfl, rfl⟩
theorem MapR.same {D : DataW Unit} {E E' : List En} (h : MapR D E) (h1 : hm E' = hm E) (h2 : hcn E' = hcn E) : MapR D E' := ⟨fun x zd => by rw [h1]; exact h.at_ x zd, fun x => by rw [h1]; exact h.has x, by rw [h2]; exact h.size⟩
theorem MapR.put {D : DataW Unit} {E : List En} {last : Int} (h : MapR D E) (K : Kept E last) (T : Tidy D) (t : ByteArray) : MapR (D.put (.int .i64 (last + 1)) (.lit (.string t.data.toList))) (E ++ [⟨last + 1, t, 1⟩]) := by
  obtain ⟨_, h1, h2⟩ := hm_add K t
  have hno : hm E (last + 1) = Option.none := by
    cases hx : hm E (last + 1) with
    | none => rfl
    | some u => have := K.hm_lt hx; omega
  have hne : ∀ x : Int, x ≠ last + 1 → (Lit.int .i64 x) ≠ (.int .i64 (last + 1)) := fun x hx e => by cases e; exact hx rfl
  refine ⟨fun x zd => ?_, fun x => ?_, ?_⟩
  · rw [h1]
    by_cases hx : x = last + 1
    · subst hx
      rw [if_pos rfl]
      exact Maps.atKey_put_same T.isMap (by trivial) _ _
    · rw [if_neg hx, Maps.atKey_put_other (hne x hx)]
      exact h.at_ x zd
  · rw [h1]
    by_cases hx : x = last + 1
    · subst hx
      rw [if_pos rfl]
      exact Maps.has_put_same T.isMap (by trivial) _
    · rw [if_neg hx, Maps.has_put_other (hne x hx)]
      exact h.has x
  · rw [h2, Maps.size_put T, h.has, hno, h.size]; rfl
theorem MapR.entry {D : DataW Unit} {E : List En} {x : Int} {c : ByteArray} (h : MapR D E) (hat : ∀ zd, D.atKey (.int .i64 x) zd = .lit (.string c.data.toList)) : hm E x = some c := by
  have h1 := h.at_ x (.map [])
  rw [hat] at h1
  cases hx : hm E x with
  | none => rw [hx] at h1; cases h1
  | some t =>
    rw [hx] at h1
    simp only [DataW.lit.injEq, Lit.string.injEq] at h1
    congr 1
    apply ByteArray.ext
    exact (Array.toList_inj.1 h1).symm
variable {W w w' : World} {ρ ρ' : Nat → RV} {last last' : Int} {E E' : List En} {b0 bm r n : Nat} {D : DataW Unit}
abbrev mapAt (w : World) (bm n : Nat) (D : DataW Unit) : Prop := w.ownsMap Go.Proofs.Try.prog 3 (plainElem Go.Proofs.Try.prog 9) bm n D
theorem map_left (h : mapAt w bm n D) (hL : Left W w w' ρ ρ' last E) (hb : ¬ Sb ρ bm) : mapAt w' bm n D := by
  have hlt := h.lt
  obtain ⟨es, clock, h1, h2⟩ := h
  exact ⟨es, clock, by rw [hL.block bm hlt hb]; exact h1, h2⟩
abbrev rangeAt (w : World) (bm r n : Nat) (D : DataW Unit) (left : Lit → Bool) (cnt : Nat) : Prop := w.ranges Go.Proofs.Try.prog 3 (plainElem Go.Proofs.Try.prog 9) bm r n D left cnt
theorem range_left {left : Lit → Bool} {cnt : Nat} (h : rangeAt w bm r n D left cnt) (hL : Left W w w' ρ ρ' last E) (hb : ¬ Sb ρ bm) (hr : ¬ Sb ρ r) : rangeAt w' bm r n D left cnt := by
  obtain ⟨es, clock, since, seen, c0, h1, h2, h3, h4, h5, h6⟩ := h
  have l1 := (Array.getElem?_eq_some_iff.1 h1).1
  have l2 := (Array.getElem?_eq_some_iff.1 h5).1
  exact ⟨es, clock, since, seen, c0, by rw [hL.block bm l1 hb]; exact h1, h2, h3, h4, by rw [hL.block r l2 hr]; exact h5, h6⟩
theorem range_mono {left : Lit → Bool} {cnt : Nat} (h : rangeAt w bm r n D left cnt) : rangeAt w bm r (n + 1) D left cnt := by
  obtain ⟨es, clock, since, seen, c0, h1, h2, h3, h4⟩ := h
  exact ⟨es, clock, since, seen, c0, h1, h2, Nat.le_succ_of_le h3, h4⟩
theorem range_lt {left : Lit → Bool} {cnt : Nat} (h : rangeAt w bm r n D left cnt) : r < w.heap.size := by
  obtain ⟨es, clock, since, seen, c0, h1, h2, h3, h4, h5, h6⟩ := h
  exact (Array.getElem?_eq_some_iff.1 h5).1
theorem sb_left (hL : Left W w w' ρ ρ' last E) (hb : ¬ Sb ρ bm) (hlt : bm < w.heap.size) : ¬ Sb ρ' bm := fun h => by
  rcases hL.sb bm h with h1 | h1
  · exact hb h1
  · omega
theorem below_left (hB : Below W.heap.size W w) (hst : stHR W w ρ last' E') (hL : Left W w w' ρ ρ' last E) : Below W.heap.size W w' := by
  have hs := hB.size
  exact ⟨hL.os.trans hB.os, hL.tape.trans hB.tape, hL.output.trans hB.output, Nat.le_trans hs hL.size, fun k hk => (hL.block k (by omega) (fun h => by have := (hst.own h).1; omega)).trans (hB.block k hk)⟩
theorem st_grown {row : Option Nat} (hst : stHR W w ρ last E) (hg : w.grownBy w' row) (hb : ∀ b, row = some b → ¬ Sb ρ b) : stHR W w' ρ last E :=
  hst.kept fun b h => hg.block b (hst.own h).2 (fun e => hb b e.symm h)
theorem below_grown {row : Option Nat} (hB : Below W.heap.size W w) (hg : w.grownBy w' row) (hb : ∀ b, row = some b → W.heap.size ≤ b) : Below W.heap.size W w' := hB.grown hg hB.size (fun j hj => hb j hj)
/-- Last, by its own walk: the world stays. -/
theorem st_cells (hst : stHR W w ρ last E) (hp : (ρ 0).hdr = .pointer (some ⟨b0, 0, none⟩)) : w.cell? ⟨b0, 1, none⟩ = some (.int .i64 last) := by
  obtain ⟨b, T, cur, e, own, hh, hv, tg⟩ := hst.ob 0 _ rfl
  rw [hp] at e
  simp at e; subst e
  cases cur with
  | mk l =>
    cases hv with
    | cons _ v1 _ vs h1 h2 =>
      cases h2 with
      | cons _ v2 _ vs2 h3 h4 =>
        cases h4
        cases h3
        simp [World.cell?, hh]
end Go.X.Try
namespace Go.Proofs
open Go.RowKit
theorem last23 (b0 : Nat) (last : Int) (w : World) (h : w.cell? ⟨b0, 1, none⟩ = some (.int .i64 last)) : Calls Try.prog 23 #[.pointer (some ⟨b0, 0, none⟩)] w fun e w' => e = .returned (.int .i64 last) ∧ w' = w := by
  go_enter Try.func23, Try.ntmps23
  go_wp2
  go_ret
  exact ⟨rfl, rfl⟩
end Go.Proofs
