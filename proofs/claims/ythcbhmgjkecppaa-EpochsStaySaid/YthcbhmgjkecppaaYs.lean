/-
  PROVED: 'Rows.EpochsStaySaid': whatever the arguments are, the call of 'pemmicanlaw21.EpochsStay' returns true, and the arguments read as they did. Conditions: none.
-/
import Derived.Test.YthcbhmgjkecppaaRows
import Derived.Test.YthcbhmgjkecppaaVf
import Derived.Test.YthcbhmgjkecppaaAv
import Derived.WalkKit
import Derived.ProofKit
import Derived.OpenShut
namespace Go.Proofs.Ythcbhmgjkecppaa.epochsStay
open Go.ChangeShapes Go.WideShapes Go.ChangeAt Go.RowKit
set_option linter.unusedVariables false

theorem own : ownKnob Try.prog.godebug = none := by kernel_rfl
theorem cells9 : Try.prog.cellsOf 9 = 1 := by kernel_rfl
theorem cells4 : Try.prog.cellsOf 4 = 1 := by kernel_rfl

set_option maxRecDepth 100000 in
theorem lifted (os : Os) (started : os.Started) (H : Type) (enc : TypeId × Value → H) :
    ReturnsInHanded {} Try.checked os 4 .any (Rows.epochsStaySpec.pre6 enc Try.prog Try.f4 Rows.epochsStayRow.domain false) (Rows.epochsStaySpec.post enc Try.prog Try.f4 false true false false) := by
  refine returnsInHanded_of_change (C := Try.checked) own started (by kernel_rfl) Try.func4
    (ChangeSpec.witness6 (enc := enc) (C := Try.checked) false ⟨#[], #[.slice none 0 0, .slice none 0 0], []⟩ 8 (by kernel_rfl) (by kernel_rfl) (by kernel_rfl) (by kernel_rfl)) ?_
  intro W base args ds gs before hval0 hW hcnd _
  have hval : ∀ (j : Nat) t v, Try.f4.params[j]? = some t → args[j]? = some v → Value.okWide Try.prog W .any base t v := hval0
  have hW' := hW
  obtain ⟨p, q, hA0, hV, rfl, hfz, hnd⟩ := hW
  have hA : DataW.TrodAll enc Try.prog W 0 (fun _ => true) true Try.f4.params.toList args.toList ds p := hA0
  have hAk := hA
  rw [Try.params4] at hA hval
  obtain ⟨v0, vs0, d0, ds0, p0, q0, hargs, rfl, rfl, h0, r0⟩ := trodAll_cons hA
  obtain ⟨v1, vs1, d1, ds1, p1, q1, rfl, rfl, rfl, h1, r1⟩ := trodAll_cons r0
  obtain ⟨rfl, rfl, rfl⟩ := trodAll_nil r1
  obtain rfl : args = #[v0, v1] := by cases args; simp_all
  obtain ⟨rfl, rfl⟩ := trodVars_none hV
  obtain ⟨a0, ad0, cap0, b0, rfl, hc0, hl0, w0, hr0⟩ := Go.X.open_ro_strs Try.underlying25 Try.underlying9 cells9 (hval 0 25 v0 rfl rfl) h0
  obtain ⟨a1, ad1, cap1, b1, rfl, hc1, hl1, w1, hr1⟩ := Go.X.open_ro_bools Try.underlying26 Try.underlying4 cells4 (hval 1 26 v1 rfl rfl) h1
  clear hA0 hval0
  simp only [List.append_nil] at hW' hAk
  refine (Go.X.law_of (fun t => match t with | 0 => b0 | 1 => b1 | _ => 0) Go.X.Try.s4 (Go.X.Try.law4 a0 a1 hl0 w0 hl1 w1) (.cons _ _ _ _ (.one _ _ (.ro 0 _ _ _ (hr0 _ 0 rfl) hc0)) (.cons _ _ _ _ (.one _ _ (.ro 1 _ _ _ (hr1 _ 1 rfl) hc1)) .nil)) : Calls Try.prog 4 _ W _).mono fun e W' ⟨he, hg⟩ => ?_
  subst he
  exact ⟨_, rfl, Go.X.post_below (by kernel_rfl) (by kernel_rfl) hW' hg (fun _ _ _ => (trodAll_cons_mk (shut_bool Try.underlying4 _) trodAll_mk0)) rfl hAk (fun _ => rfl)⟩

theorem over : Rows.epochsStayRow.holds Try.pinned (OpenSpec.ofChange Rows.epochsStaySpec) :=
  OpenClaim.holds_of_wide 4 Try.f4 rfl rfl rfl rfl rfl rfl rfl ⟨rfl, rfl, rfl, rfl, rfl⟩ rfl rfl rfl rfl rfl (by kernel_rfl) Try.func4 (by kernel_rfl)
    (of_decide_eq_true (by kernel_rfl)) (by unfold Func.isWrapper; first | (rw [if_pos (by decide +kernel)]; kernel_rfl) | (rw [if_neg (by decide +kernel)]; exact ⟨rfl, rfl⟩))
    (fun os started H enc _ => lifted os started H enc)

/-- The statement. -/
theorem proved : Rows.EpochsStaySaid :=
  over
#print axioms proved
end Go.Proofs.Ythcbhmgjkecppaa.epochsStay
