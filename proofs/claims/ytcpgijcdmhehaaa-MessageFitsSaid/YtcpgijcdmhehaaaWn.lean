/-
  PROVED: 'Rows.MessageFitsSaid': whatever the arguments are, the call of 'pemmicanlaw25.MessageFits' returns true, and the arguments read as they did. Conditions: none.
-/
import Derived.Test.YtcpgijcdmhehaaaRows
import Derived.Test.YtcpgijcdmhehaaaZ4
import Derived.WalkKit
import Derived.ProofKit
import Derived.OpenShut
namespace Go.Proofs.Ytcpgijcdmhehaaa.messageFits
open Go.ChangeShapes Go.WideShapes Go.ChangeAt Go.RowKit
set_option linter.unusedVariables false

theorem own : ownKnob Try.prog.godebug = none := by kernel_rfl
theorem cells36 : Try.prog.cellsOf 36 = 6 := by kernel_rfl

set_option maxRecDepth 100000 in
theorem lifted (os : Os) (started : os.Started) (H : Type) (enc : TypeId × Value → H) :
    ReturnsInHanded {} Try.checked os 12 .any (Rows.messageFitsSpec.pre6 enc Try.prog Try.f12 Rows.messageFitsRow.domain false) (Rows.messageFitsSpec.post enc Try.prog Try.f12 false true false false) := by
  refine returnsInHanded_of_change_sized (C := Try.checked) own started (by kernel_rfl) Try.func12
    (ChangeSpec.witness6 (enc := enc) (C := Try.checked) false ⟨#[], #[.agg #[.int .i64 0, .int .i64 0, .int .i64 0, .int .i64 0, .int .u64 0, .string ⟨#[]⟩]], []⟩ 8 (by kernel_rfl) (by kernel_rfl) (by kernel_rfl) (by kernel_rfl)) ?_
  intro W base args ds gs before hval0 hW hcnd hsz _
  have hval : ∀ (j : Nat) t v, Try.f12.params[j]? = some t → args[j]? = some v → Value.okWide Try.prog W .any base t v := hval0
  have hW' := hW
  obtain ⟨p, q, hA0, hV, rfl, hfz, hnd⟩ := hW
  have hA : DataW.TrodAll enc Try.prog W 0 (fun _ => true) true Try.f12.params.toList args.toList ds p := hA0
  have hAk := hA
  rw [Try.params12] at hA hval
  obtain ⟨v0, vs0, d0, ds0, p0, q0, hargs, rfl, rfl, h0, r0⟩ := trodAll_cons hA
  obtain ⟨rfl, rfl, rfl⟩ := trodAll_nil r0
  obtain rfl : args = #[v0] := by cases args; simp_all
  obtain ⟨rfl, rfl⟩ := trodVars_none hV
  obtain ⟨a0, rfl, w0⟩ := Go.X.open_struct Try.underlying36 (by kernel_rfl) (by kernel_rfl) [.int .i64, .int .i64, .int .i64, .int .i64, .int .u64, .str] (by kernel_rfl) (hval 0 36 v0 rfl rfl) h0
  have hlong : ∀ s, a0[5]? = some (.str s) → s.size ≤ 140737488351232 := fun s hs => by
    obtain ⟨fs, hfs, hone, f, hf, hu⟩ : ∃ fs, Try.prog.underlying 36 = some (.struct fs) ∧ Go.Deep.oneCellFields Try.prog fs = true ∧ ∃ f, fs[5]? = some f ∧ Try.prog.underlying f.type = some .string :=
      ⟨_, Try.underlying36, by kernel_rfl, _, by rfl, by exact Try.underlying9⟩
    have hm := Go.X.struct_string hfs hone h0 hf hu (show (a0.map Go.X.Sc.val)[5]? = some (.string s) by rw [List.getElem?_map, hs]; rfl)
    have hall := List.all_eq_true.1 hsz s.size (by rw [Try.params12]; exact List.mem_append_left _ hm)
    have := of_decide_eq_true hall
    exact Nat.le_trans this (by decide)
  clear hA0 hval0
  simp only [List.append_nil] at hW' hAk
  refine (Go.X.law_of (fun _ => 0) Go.X.Try.s12 (Go.X.Try.law12 a0 w0 hlong) (.cons _ _ _ _ (.agg _ _ (Go.X.vrl_scs a0)) .nil) : Calls Try.prog 12 _ W _).mono fun e W' ⟨he, hg⟩ => ?_
  subst he
  exact ⟨_, rfl, Go.X.post_below (by kernel_rfl) (by kernel_rfl) hW' hg (fun _ _ _ => (trodAll_cons_mk (shut_bool Try.underlying4 _) trodAll_mk0)) rfl hAk (fun _ => rfl)⟩

theorem over : Rows.messageFitsRow.holds Try.pinned (OpenSpec.ofChange Rows.messageFitsSpec) :=
  OpenClaim.holds_of_wide 12 Try.f12 rfl rfl rfl rfl rfl rfl rfl ⟨rfl, rfl, rfl, rfl, rfl⟩ rfl rfl rfl rfl rfl (by kernel_rfl) Try.func12 (by kernel_rfl)
    (of_decide_eq_true (by kernel_rfl)) (by unfold Func.isWrapper; first | (rw [if_pos (by decide +kernel)]; kernel_rfl) | (rw [if_neg (by decide +kernel)]; exact ⟨rfl, rfl⟩))
    (fun os started H enc _ => lifted os started H enc)

/-- The statement. -/
theorem proved : Rows.MessageFitsSaid :=
  over
#print axioms proved
end Go.Proofs.Ytcpgijcdmhehaaa.messageFits
