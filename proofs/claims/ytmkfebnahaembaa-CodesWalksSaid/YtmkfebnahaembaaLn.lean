/-
  PROVED: 'Rows.CodesWalksSaid': whatever the arguments are, the call of 'pemmicanlaw13.CodesWalks' returns true, and the arguments read as they did. Conditions: none.
-/
import Derived.Test.YtmkfebnahaembaaRows
import Derived.Test.YtmkfebnahaembaaG4
import Derived.Test.YtmkfebnahaembaaAv
import Derived.WalkKit
import Derived.ProofKit
import Derived.OpenShut
namespace Go.Proofs.Ytmkfebnahaembaa.codesWalks
open Go.ChangeShapes Go.WideShapes Go.ChangeAt Go.RowKit
set_option linter.unusedVariables false

theorem own : ownKnob Try.prog.godebug = none := by kernel_rfl
theorem cells86 : Try.prog.cellsOf 86 = 1 := by kernel_rfl

set_option maxRecDepth 100000 in
theorem lifted (os : Os) (started : os.Started) (H : Type) (enc : TypeId × Value → H) :
    ReturnsInHanded {} Try.checked os 11 .any (Rows.codesWalksSpec.pre6 enc Try.prog Try.f11 Rows.codesWalksRow.domain false) (Rows.codesWalksSpec.post enc Try.prog Try.f11 false true false false) := by
  refine returnsInHanded_of_change (C := Try.checked) own started (by kernel_rfl) Try.func11
    (ChangeSpec.witness6 (enc := enc) (C := Try.checked) false ⟨#[], #[.slice none 0 0], []⟩ 8 (by kernel_rfl) (by kernel_rfl) (by kernel_rfl) (by kernel_rfl)) ?_
  intro W base args ds gs before hval0 hW hcnd _
  have hval : ∀ (j : Nat) t v, Try.f11.params[j]? = some t → args[j]? = some v → Value.okWide Try.prog W .any base t v := hval0
  have hW' := hW
  obtain ⟨p, q, hA0, hV, rfl, hfz, hnd⟩ := hW
  have hA : DataW.TrodAll enc Try.prog W 0 (fun _ => true) true Try.f11.params.toList args.toList ds p := hA0
  have hAk := hA
  rw [Try.params11] at hA hval
  obtain ⟨v0, vs0, d0, ds0, p0, q0, hargs, rfl, rfl, h0, r0⟩ := trodAll_cons hA
  obtain ⟨rfl, rfl, rfl⟩ := trodAll_nil r0
  obtain rfl : args = #[v0] := by cases args; simp_all
  obtain ⟨rfl, rfl⟩ := trodVars_none hV
  obtain ⟨a0, ad0, cap0, b0, rfl, hc0, hl0, w0, hr0⟩ := Go.X.open_ro_ints Try.underlying84 Try.underlying86 cells86 (hval 0 84 v0 rfl rfl) h0
  clear hA0 hval0
  simp only [List.append_nil] at hW' hAk
  refine (Go.X.law_of (fun t => match t with | 0 => b0 | _ => 0) Go.X.Try.s11 (Go.X.Try.law11 a0 hl0 w0) (.cons _ _ _ _ (.one _ _ (.ro 0 _ _ _ (hr0 _ 0 rfl) hc0)) .nil) : Calls Try.prog 11 _ W _).mono fun e W' ⟨he, hg⟩ => ?_
  subst he
  exact ⟨_, rfl, Go.X.post_below (by kernel_rfl) (by kernel_rfl) hW' hg (fun _ _ _ => (trodAll_cons_mk (shut_bool Try.underlying4 _) trodAll_mk0)) rfl hAk (fun _ => rfl)⟩

theorem over : Rows.codesWalksRow.holds Try.pinned (OpenSpec.ofChange Rows.codesWalksSpec) :=
  OpenClaim.holds_of_wide 11 Try.f11 rfl rfl rfl rfl rfl rfl rfl ⟨rfl, rfl, rfl, rfl, rfl⟩ rfl rfl rfl rfl rfl (by kernel_rfl) Try.func11 (by kernel_rfl)
    (of_decide_eq_true (by kernel_rfl)) (by unfold Func.isWrapper; first | (rw [if_pos (by decide +kernel)]; kernel_rfl) | (rw [if_neg (by decide +kernel)]; exact ⟨rfl, rfl⟩))
    (fun os started H enc _ => lifted os started H enc)

/-- The statement. -/
theorem proved : Rows.CodesWalksSaid :=
  over
#print axioms proved
end Go.Proofs.Ytmkfebnahaembaa.codesWalks
