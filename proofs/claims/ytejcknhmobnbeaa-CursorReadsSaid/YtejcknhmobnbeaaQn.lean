/-
  PROVED: 'Rows.CursorReadsSaid': whatever the arguments are, the call of 'pemmicanlaw03.CursorReads' returns true, and the arguments read as they did. Conditions: none.
-/
import Derived.Test.YtejcknhmobnbeaaRows
import Derived.Test.YtejcknhmobnbeaaCi
import Derived.Test.YtejcknhmobnbeaaAv
import Derived.WalkKit
import Derived.ProofKit
import Derived.OpenShut
namespace Go.Proofs.Ytejcknhmobnbeaa.cursorReads
open Go.ChangeShapes Go.WideShapes Go.ChangeAt Go.RowKit
set_option linter.unusedVariables false

theorem own : ownKnob Try.prog.godebug = none := by kernel_rfl
theorem cells78 : Try.prog.cellsOf 78 = 4 := by kernel_rfl

set_option maxRecDepth 100000 in
theorem lifted (os : Os) (started : os.Started) (H : Type) (enc : TypeId × Value → H) :
    ReturnsInHanded {} Try.checked os 9 .any (Rows.cursorReadsSpec.pre6 enc Try.prog Try.f9 Rows.cursorReadsRow.domain false) (Rows.cursorReadsSpec.post enc Try.prog Try.f9 false true false false) := by
  refine returnsInHanded_of_change (C := Try.checked) own started (by kernel_rfl) Try.func9
    (ChangeSpec.witness6 (enc := enc) (C := Try.checked) false ⟨#[], #[.string ⟨#[]⟩, .slice none 0 0], []⟩ 8 (by kernel_rfl) (by kernel_rfl) (by kernel_rfl) (by kernel_rfl)) ?_
  intro W base args ds gs before hval0 hW hcnd _
  have hval : ∀ (j : Nat) t v, Try.f9.params[j]? = some t → args[j]? = some v → Value.okWide Try.prog W .any base t v := hval0
  have hW' := hW
  obtain ⟨p, q, hA0, hV, rfl, hfz, hnd⟩ := hW
  have hA : DataW.TrodAll enc Try.prog W 0 (fun _ => true) true Try.f9.params.toList args.toList ds p := hA0
  have hAk := hA
  rw [Try.params9] at hA hval
  obtain ⟨v0, vs0, d0, ds0, p0, q0, hargs, rfl, rfl, h0, r0⟩ := trodAll_cons hA
  obtain ⟨v1, vs1, d1, ds1, p1, q1, rfl, rfl, rfl, h1, r1⟩ := trodAll_cons r0
  obtain ⟨rfl, rfl, rfl⟩ := trodAll_nil r1
  obtain rfl : args = #[v0, v1] := by cases args; simp_all
  obtain ⟨rfl, rfl⟩ := trodVars_none hV
  obtain ⟨a0, rfl, rfl, rfl, w0⟩ := Go.ChangeMaps.open_string Try.underlying9 (hval 0 9 v0 rfl rfl) h0
  obtain ⟨a1, ad1, cap1, b1, rfl, hc1, hl1, w1, hr1⟩ := Go.X.open_ro_recs 4 (Go.X.okFields [.int .u8, .int .u64, .int .i64, .str]) (by omega) (fun l hl => Go.X.okFields_length hl) (fun fuel cs x hx => Go.X.open_fields (P := Try.prog) Try.underlying78 (by kernel_rfl) (by kernel_rfl) [.int .u8, .int .u64, .int .i64, .str] (by kernel_rfl) hx) Try.underlying72 cells78 (hval 1 72 v1 rfl rfl) h1
  clear hA0 hval0
  simp only [List.append_nil] at hW' hAk
  refine (Go.X.law_of (fun t => match t with | 1 => b1 | _ => 0) Go.X.Try.s9x (Go.X.Try.law9 a0 a1 w0 hl1 w1) (.cons _ _ _ _ (.one _ _ (.str _)) (.cons _ _ _ _ (.one _ _ (.ro 1 _ _ _ (hr1 _ 1 rfl) hc1)) .nil)) : Calls Try.prog 9 _ W _).mono fun e W' ⟨he, hg⟩ => ?_
  subst he
  exact ⟨_, rfl, Go.X.post_below (by kernel_rfl) (by kernel_rfl) hW' hg (fun _ _ _ => (trodAll_cons_mk (shut_bool Try.underlying4 _) trodAll_mk0)) rfl hAk (fun _ => rfl)⟩

theorem over : Rows.cursorReadsRow.holds Try.pinned (OpenSpec.ofChange Rows.cursorReadsSpec) :=
  OpenClaim.holds_of_wide 9 Try.f9 rfl rfl rfl rfl rfl rfl rfl ⟨rfl, rfl, rfl, rfl, rfl⟩ rfl rfl rfl rfl rfl (by kernel_rfl) Try.func9 (by kernel_rfl)
    (of_decide_eq_true (by kernel_rfl)) (by unfold Func.isWrapper; first | (rw [if_pos (by decide +kernel)]; kernel_rfl) | (rw [if_neg (by decide +kernel)]; exact ⟨rfl, rfl⟩))
    (fun os started H enc _ => lifted os started H enc)

/-- The statement. -/
theorem proved : Rows.CursorReadsSaid :=
  over
#print axioms proved
end Go.Proofs.Ytejcknhmobnbeaa.cursorReads
