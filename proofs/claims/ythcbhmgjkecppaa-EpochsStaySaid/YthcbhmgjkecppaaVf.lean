/- EpochsStay, as a function of data. -/
import Derived.Test.YthcbhmgjkecppaaVe
import Derived.Test.YthcbhmgjkecppaaAt
set_option maxRecDepth 100000
set_option linter.unusedSimpArgs false
set_option linter.unusedVariables false
namespace Go.X.Try
open Go.X Go.RowKit
def F4 : Callee := fun args hp => match args, hp with
  | [.one (.ro _ (.strs l)), .one (.ro _ (.bools h))], [] => some (.one (.bool true), [])
  | _, _ => none
theorem s4 : Sound Go.Proofs.Try.prog 4 F4 := by
  intro args hp r hp' h
  unfold F4 at h
  split at h
  rotate_left
  · simp at h
  rename_i t l u hold
  simp only [Option.some.injEq, Prod.mk.injEq] at h
  obtain ⟨rfl, rfl⟩ := h
  refine ⟨by kernel_rfl, fun C ρ w rargs hP h0 hD hv hH => ?_⟩
  subst h0
  cases hv with
  | cons _ v _ vs h1 h2 =>
  cases h2 with
  | cons _ v2 _ vs2 h3 h4 =>
  cases h4
  cases h1 with
  | one _ _ h1 =>
  cases h1 with
  | ro _ _ a cap hr hc =>
  cases h3 with
  | one _ _ h3 =>
  cases h3 with
  | ro _ _ a2 cap2 hr2 hc2 =>
  refine (Go.Proofs.wk4 l hold a a2 cap cap2 C.w0 (fun hlen => ?_) (fun hlen => ?_)).mono ?_
  · obtain ⟨b, o, e1, hown, _, hcell⟩ := hr.2 hlen
    exact ⟨b, o, e1, Nat.lt_of_not_le (fun h' => hown (.inr h')), fun j x hj => hcell j (.string x) (by simp [RC.vals, hj])⟩
  · obtain ⟨b, o, e1, hown, _, hcell⟩ := hr2.2 hlen
    exact ⟨b, o, e1, Nat.lt_of_not_le (fun h' => hown (.inr h')), fun j x hj => hcell j (.bool x) (by simp [RC.vals, hj])⟩
  · rintro e w' ⟨rfl, hb⟩
    exact ⟨ρ, _, rfl, .one _ _ (.bool true), ⟨fun k o h => by simp at h, fun j k b _ h => by obtain ⟨_, h, _⟩ := h; simp at h⟩, ⟨hb.size, fun b h1 _ => hb.block b h1, hb.os, hb.tape, hb.output⟩⟩
theorem law4 {p1 p2 p3 p4 : Prop} (l : List ByteArray) (h : List Bool) (_ : p1) (_ : p2) (_ : p3) (_ : p4) : F4 [.one (.ro 0 (.strs l)), .one (.ro 1 (.bools h))] [] = some (.one (.bool true), []) := rfl
end Go.X.Try
