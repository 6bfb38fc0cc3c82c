/-
  PROVED: 'Rows.EpochsRunsSaid': whatever the arguments are, the call of 'pemmicanlaw21.EpochsRuns' returns true, and the arguments read as they did. Conditions: none.
-/
import Derived.Test.YthcbhmgjkecppaaRows
import Derived.Test.YthcbhmgjkecppaaNk
import Derived.Test.YthcbhmgjkecppaaAv
import Derived.WalkKit
import Derived.ProofKit
import Derived.OpenShut
namespace Go.Proofs.Ythcbhmgjkecppaa.epochsRuns
open Go.ChangeShapes Go.WideShapes Go.ChangeAt Go.RowKit
set_option linter.unusedVariables false

theorem own : ownKnob Try.prog.godebug = none := by kernel_rfl
theorem cells57 : Try.prog.cellsOf 57 = 3 := by kernel_rfl

set_option maxRecDepth 100000 in
theorem lifted (os : Os) (started : os.Started) (H : Type) (enc : TypeId × Value → H) :
    ReturnsInHanded {} Try.checked os 7 .any (Rows.epochsRunsSpec.pre6 enc Try.prog Try.f7 Rows.epochsRunsRow.domain false) (Rows.epochsRunsSpec.post enc Try.prog Try.f7 false true false false) := by
  refine returnsInHanded_of_change (C := Try.checked) own started (by kernel_rfl) Try.func7
    (ChangeSpec.witness6 (enc := enc) (C := Try.checked) false ⟨#[], #[.slice none 0 0], []⟩ 8 (by kernel_rfl) (by kernel_rfl) (by kernel_rfl) (by kernel_rfl)) ?_
  intro W base args ds gs before hval0 hW hcnd _
  have hval : ∀ (j : Nat) t v, Try.f7.params[j]? = some t → args[j]? = some v → Value.okWide Try.prog W .any base t v := hval0
  have hW' := hW
  obtain ⟨p, q, hA0, hV, rfl, hfz, hnd⟩ := hW
  have hA : DataW.TrodAll enc Try.prog W 0 (fun _ => true) true Try.f7.params.toList args.toList ds p := hA0
  have hAk := hA
  rw [Try.params7] at hA hval
  obtain ⟨v0, vs0, d0, ds0, p0, q0, hargs, rfl, rfl, h0, r0⟩ := trodAll_cons hA
  obtain ⟨rfl, rfl, rfl⟩ := trodAll_nil r0
  obtain rfl : args = #[v0] := by cases args; simp_all
  obtain ⟨rfl, rfl⟩ := trodVars_none hV
  obtain ⟨a0, ad0, cap0, b0, rfl, hc0, hl0, w0, hr0⟩ := Go.X.open_ro_recs 3 (Go.X.okFields [.int .u8, .int .i64, .str]) (by omega) (fun l hl => Go.X.okFields_length hl) (fun fuel cs x hx => Go.X.open_fields (P := Try.prog) Try.underlying57 (by kernel_rfl) (by kernel_rfl) [.int .u8, .int .i64, .str] (by kernel_rfl) hx) Try.underlying52 cells57 (hval 0 52 v0 rfl rfl) h0
  clear hA0 hval0
  simp only [List.append_nil] at hW' hAk
  refine (Go.X.law_of (fun t => match t with | 0 => b0 | _ => 0) Go.X.Try.s7 (Go.X.Try.law7 a0 hl0 w0) (.cons _ _ _ _ (.one _ _ (.ro 0 _ _ _ (hr0 _ 0 rfl) hc0)) .nil) : Calls Try.prog 7 _ W _).mono fun e W' ⟨he, hg⟩ => ?_
  subst he
  exact ⟨_, rfl, Go.X.post_below (by kernel_rfl) (by kernel_rfl) hW' hg (fun _ _ _ => (trodAll_cons_mk (shut_bool Try.underlying4 _) trodAll_mk0)) rfl hAk (fun _ => rfl)⟩

theorem over : Rows.epochsRunsRow.holds Try.pinned (OpenSpec.ofChange Rows.epochsRunsSpec) :=
  OpenClaim.holds_of_wide 7 Try.f7 rfl rfl rfl rfl rfl rfl rfl ⟨rfl, rfl, rfl, rfl, rfl⟩ rfl rfl rfl rfl rfl (by kernel_rfl) Try.func7 (by kernel_rfl)
    (of_decide_eq_true (by kernel_rfl)) (by unfold Func.isWrapper; first | (rw [if_pos (by decide +kernel)]; kernel_rfl) | (rw [if_neg (by decide +kernel)]; exact ⟨rfl, rfl⟩))
    (fun os started H enc _ => lifted os started H enc)

/-- The statement. -/
theorem proved : Rows.EpochsRunsSaid :=
  over
#print axioms proved
end Go.Proofs.Ythcbhmgjkecppaa.epochsRuns
