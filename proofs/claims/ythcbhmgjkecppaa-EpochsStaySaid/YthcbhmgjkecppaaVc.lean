/- The store's methods, as contracts for the walk. -/
import Derived.Test.YthcbhmgjkecppaaVb
set_option maxRecDepth 100000
set_option linter.unusedSimpArgs false
set_option linter.unusedVariables false
namespace Go.X.Try
open Go.X Go.RowKit
variable {W w : World} {ρ : Nat → RV} {last last' : Int} {E E' : List En} {b0 : Nat}
theorem fr_below' {w w' : World} (h : FR (CB Go.Proofs.Try.prog w) w') : Below w.heap.size w w' := ⟨h.os, h.tape, h.output, h.size, fun b hb => h.block b hb (fun h => h)⟩
theorem hr_empty (C : Cx) (ρ : Nat → RV) (w : World) : HR C ρ [] w := ⟨fun k o h => by simp at h, fun j k b _ h => by obtain ⟨_, h, _⟩ := h; simp at h⟩
theorem k17 (w : World) : Calls Go.Proofs.Try.prog 17 #[] w fun e w' => e = .returned (.bool true) ∧ Below w.heap.size w w' := by
  refine ((s17 _ _ _ _ f17).2 (CB Go.Proofs.Try.prog w) (fun _ => ⟨.nilFunc, 0⟩) w [] rfl rfl rfl .nil (hr_empty _ _ _)).mono ?_
  rintro e w' ⟨ρ', rv, rfl, hv, _, hF⟩
  cases hv with
  | one _ _ h => cases h; exact ⟨rfl, fr_below' hF⟩
theorem k18 (w : World) : Calls Go.Proofs.Try.prog 18 #[] w fun e w' => ∃ ρ b0, e = .returned (.pointer (some ⟨b0, 0, none⟩)) ∧ (ρ 0).hdr = .pointer (some ⟨b0, 0, none⟩) ∧ stHR w w' ρ 0 [] ∧ Below w.heap.size w w' := by
  refine ((s18 _ _ _ _ f18).2 (CB Go.Proofs.Try.prog w) (fun _ => ⟨.nilFunc, 0⟩) w [] rfl rfl rfl .nil (hr_empty _ _ _)).mono ?_
  rintro e w' ⟨ρ', rv, rfl, hv, hH, hF⟩
  cases hv with
  | one _ _ h =>
    cases h with
    | ptr _ _ b hk hb => exact ⟨ρ', b, rfl, hb, hH, fr_below' hF⟩
theorem k19 (hst : stHR W w ρ last E) (hW : W.heap.size ≤ w.heap.size) (hp : (ρ 0).hdr = .pointer (some ⟨b0, 0, none⟩)) (t : ByteArray) (n e : Int) (h : F19 [.one (.ptr 0 0), .one (.str t)] (stE (some 0) last E) = some (.tup [.one (.int .i64 n), .one (.int .i64 e)], stE (some 0) last' E')) :
    Calls Go.Proofs.Try.prog 19 #[.pointer (some ⟨b0, 0, none⟩), .string t] w fun x w' => ∃ ρ', x = .returned (.tuple #[.int .i64 n, .int .i64 e]) ∧ Left W w w' ρ ρ' last' E' := by
  refine (st_call (X := []) (vs := [.string t]) s19 (by rw [List.append_nil]; exact h) (fun _ _ _ => .cons _ _ _ _ (.one _ _ (.str t)) .nil) hst hW hp).mono ?_
  rintro x w' ⟨ρ', rv, rfl, hv, _, hL⟩
  cases hv with
  | tup _ _ h1 =>
    cases h1 with
    | cons _ _ _ _ h2 h3 =>
      cases h3 with
      | cons _ _ _ _ h4 h5 =>
        cases h5
        cases h2 with
        | one _ _ h2 =>
          cases h2
          cases h4 with
          | one _ _ h4 => cases h4; exact ⟨ρ', rfl, hL⟩
theorem k20 (hst : stHR W w ρ last E) (hW : W.heap.size ≤ w.heap.size) (hp : (ρ 0).hdr = .pointer (some ⟨b0, 0, none⟩)) (n : Int) (r : Bool) (h : F20 [.one (.ptr 0 0), .one (.int .i64 n)] (stE (some 0) last E) = some (.one (.bool r), stE (some 0) last' E')) :
    Calls Go.Proofs.Try.prog 20 #[.pointer (some ⟨b0, 0, none⟩), .int .i64 n] w fun x w' => ∃ ρ', x = .returned (.bool r) ∧ Left W w w' ρ ρ' last' E' := by
  refine (st_call (X := []) (vs := [.int .i64 n]) s20 (by rw [List.append_nil]; exact h) (fun _ _ _ => .cons _ _ _ _ (.one _ _ (.int _ n)) .nil) hst hW hp).mono ?_
  rintro x w' ⟨ρ', rv, rfl, hv, _, hL⟩
  cases hv with
  | one _ _ h1 => cases h1; exact ⟨ρ', rfl, hL⟩
theorem k21 (hst : stHR W w ρ last E) (hW : W.heap.size ≤ w.heap.size) (hp : (ρ 0).hdr = .pointer (some ⟨b0, 0, none⟩)) (n : Int) (t : ByteArray) (r : Bool) (h : F21 [.one (.ptr 0 0), .one (.int .i64 n)] (stE (some 0) last E) = some (.tup [.one (.str t), .one (.bool r)], stE (some 0) last' E')) :
    Calls Go.Proofs.Try.prog 21 #[.pointer (some ⟨b0, 0, none⟩), .int .i64 n] w fun x w' => ∃ ρ', x = .returned (.tuple #[.string t, .bool r]) ∧ Left W w w' ρ ρ' last' E' := by
  refine (st_call (X := []) (vs := [.int .i64 n]) s21 (by rw [List.append_nil]; exact h) (fun _ _ _ => .cons _ _ _ _ (.one _ _ (.int _ n)) .nil) hst hW hp).mono ?_
  rintro x w' ⟨ρ', rv, rfl, hv, _, hL⟩
  cases hv with
  | tup _ _ h1 =>
    cases h1 with
    | cons _ _ _ _ h2 h3 =>
      cases h3 with
      | cons _ _ _ _ h4 h5 =>
        cases h5
        cases h2 with
        | one _ _ h2 =>
          cases h2
          cases h4 with
          | one _ _ h4 => cases h4; exact ⟨ρ', rfl, hL⟩
theorem k23 (hst : stHR W w ρ last E) (hW : W.heap.size ≤ w.heap.size) (hp : (ρ 0).hdr = .pointer (some ⟨b0, 0, none⟩)) :
    Calls Go.Proofs.Try.prog 23 #[.pointer (some ⟨b0, 0, none⟩)] w fun x w' => ∃ ρ', x = .returned (.int .i64 last) ∧ Left W w w' ρ ρ' last E := by
  refine (st_call (X := []) (vs := []) s23 (by rw [List.append_nil]; exact f23 last E) (fun _ _ _ => .nil) hst hW hp).mono ?_
  rintro x w' ⟨ρ', rv, rfl, hv, _, hL⟩
  cases hv with
  | one _ _ h1 => cases h1; exact ⟨ρ', rfl, hL⟩
/-- All: a row of its own, apart from the store. -/
theorem k22 (hst : stHR W w ρ last E) (hW : W.heap.size ≤ w.heap.size) (hp : (ρ 0).hdr = .pointer (some ⟨b0, 0, none⟩)) (hl : E.length ≤ 8) (h0 : E ≠ []) :
    Calls Go.Proofs.Try.prog 22 #[.pointer (some ⟨b0, 0, none⟩)] w fun x w' => ∃ ρ' b o cap, x = .returned (.slice (some ⟨b, o, none⟩) E.length cap) ∧ Left W w w' ρ ρ' last E ∧ b < w'.heap.size ∧ ¬ Sb ρ' b ∧ W.heap.size ≤ b ∧ ∀ j, j < E.length → w'.cell? ⟨b, o + j, none⟩ = some (.int .i64 ((E.map En.ep).getD j 0)) := by
  refine (st_call (vs := []) s22 (f22 last E (by omega)) (fun _ _ _ => .nil) hst hW hp).mono ?_
  rintro x w' ⟨ρ', rv, rfl, hv, hH, hL⟩
  have hpos := List.length_pos_iff.2 h0
  cases hv with
  | one _ _ h1 =>
    cases h1 with
    | row _ a m cap hk e1 =>
      obtain ⟨wf, sz, tg, hr⟩ := hH.ob 2 _ (show (stE (some 0) last E ++ [Ob.rows none (.ints .i64 (E.map En.ep))])[2]? = some (.rows none (.ints .i64 (E.map En.ep))) from rfl)
      rcases hr with ⟨_, hz⟩ | ⟨b, o, cap', cur, T, fr, e, own, hh, q1, q2, q3, q4, q5⟩
      · simp [RC.len] at hz; exact absurd hz h0
      · rw [e1] at e
        simp [RC.len] at e
        obtain ⟨rfl, rfl, rfl⟩ := e
        have hns : ¬ Sb ρ' b := by
          have al : ∀ k, k < 3 → alive (stE (some 0) last E ++ [Ob.rows none (.ints .i64 (E.map En.ep))]) k := by
            intro k hk
            match k, hk with
            | 0, _ => exact ⟨_, rfl, by simp⟩
            | 1, _ => exact ⟨_, rfl, by simp⟩
            | 2, _ => exact ⟨_, rfl, by simp⟩
          rintro (hb | hb)
          · exact hH.ne 0 2 b (by decide) (al 0 (by decide)) (al 2 (by decide)) hb (by rw [e1]; rfl)
          · exact hH.ne 1 2 b (by decide) (al 1 (by decide)) (al 2 (by decide)) hb (by rw [e1]; rfl)
        refine ⟨ρ', b, o, cap, rfl, hL, (Array.getElem?_eq_some_iff.1 hh).1, hns, ?_, fun j hj => ?_⟩
        · rcases own with h1 | h1
          · exact (hst.own h1).1
          · exact Nat.le_trans hW h1
        · have := q4 j (.int .i64 ((E.map En.ep).getD j 0)) (by simp [RC.vals, List.getD, hj])
          simp only [World.cell?, hh, this, Option.isSome_none]; rfl
end Go.X.Try
