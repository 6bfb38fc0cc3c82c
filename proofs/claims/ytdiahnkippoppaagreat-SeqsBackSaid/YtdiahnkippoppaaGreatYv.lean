/-
  PROVED: 'Rows.SeqsBackSaid': whatever the arguments are, the call of 'pemmicanlaw16.SeqsBack' returns true, and the arguments read as they did. Conditions: none.
-/
import Derived.Test.YtdiahnkippoppaaGreatRows
import Derived.Test.YtdiahnkippoppaaGreatZ6
import Derived.WalkKit
import Derived.ProofKit
import Derived.OpenShut
namespace Go.Proofs.YtdiahnkippoppaaGreat.seqsBack
open Go.ChangeShapes Go.WideShapes Go.ChangeAt Go.RowKit
set_option linter.unusedVariables false

theorem own : ownKnob Tryz.prog.godebug = none := by kernel_rfl
theorem cells38 : Tryz.prog.cellsOf 38 = 3 := by kernel_rfl

set_option maxRecDepth 100000 in
theorem lifted (os : Os) (started : os.Started) (H : Type) (enc : TypeId × Value → H) :
    ReturnsInHanded {} Tryz.checked os 3 .any (Rows.seqsBackSpec.pre6 enc Tryz.prog Tryz.f3 Rows.seqsBackRow.domain false) (Rows.seqsBackSpec.post enc Tryz.prog Tryz.f3 false true false false) := by
  refine returnsInHanded_of_change (C := Tryz.checked) own started (by kernel_rfl) Tryz.func3
    (ChangeSpec.witness6 (enc := enc) (C := Tryz.checked) false ⟨#[], #[.slice none 0 0, .string ⟨#[]⟩], []⟩ 8 (by kernel_rfl) (by kernel_rfl) (by kernel_rfl) (by kernel_rfl)) ?_
  intro W base args ds gs before hval0 hW hcnd _
  have hval : ∀ (j : Nat) t v, Tryz.f3.params[j]? = some t → args[j]? = some v → Value.okWide Tryz.prog W .any base t v := hval0
  have hW' := hW
  obtain ⟨p, q, hA0, hV, rfl, hfz, hnd⟩ := hW
  have hA : DataW.TrodAll enc Tryz.prog W 0 (fun _ => true) true Tryz.f3.params.toList args.toList ds p := hA0
  have hAk := hA
  rw [Tryz.params3] at hA hval
  obtain ⟨v0, vs0, d0, ds0, p0, q0, hargs, rfl, rfl, h0, r0⟩ := trodAll_cons hA
  obtain ⟨v1, vs1, d1, ds1, p1, q1, rfl, rfl, rfl, h1, r1⟩ := trodAll_cons r0
  obtain ⟨rfl, rfl, rfl⟩ := trodAll_nil r1
  obtain rfl : args = #[v0, v1] := by cases args; simp_all
  obtain ⟨rfl, rfl⟩ := trodVars_none hV
  obtain ⟨a0, ad0, cap0, b0, rfl, hc0, hl0, w0, hr0⟩ := Go.X.open_ro_recs 3 (Go.X.okFields [.int .i64, .int .i64, .int .i64]) (by omega) (fun l hl => Go.X.okFields_length hl) (fun fuel cs x hx => Go.X.open_fields (P := Tryz.prog) Tryz.underlying38 (by kernel_rfl) (by kernel_rfl) [.int .i64, .int .i64, .int .i64] (by kernel_rfl) hx) Tryz.underlying22 cells38 (hval 0 22 v0 rfl rfl) h0
  obtain ⟨a1, rfl, rfl, rfl, w1⟩ := Go.ChangeMaps.open_string Tryz.underlying9 (hval 1 9 v1 rfl rfl) h1
  clear hA0 hval0
  simp only [List.append_nil] at hW' hAk
  refine (Go.X.law_of (fun t => match t with | 0 => b0 | _ => 0) Go.X.Tryz.s3 (Go.X.Tryz.law3 a0 a1 hl0 w0 w1) (.cons _ _ _ _ (.one _ _ (.ro 0 _ _ _ (hr0 _ 0 rfl) hc0)) (.cons _ _ _ _ (.one _ _ (.str _)) .nil)) : Calls Tryz.prog 3 _ W _).mono fun e W' ⟨he, hg⟩ => ?_
  subst he
  exact ⟨_, rfl, Go.X.post_below (by kernel_rfl) (by kernel_rfl) hW' hg (fun _ _ _ => (trodAll_cons_mk (shut_bool Tryz.underlying4 _) trodAll_mk0)) rfl hAk (fun _ => rfl)⟩

theorem over : Rows.seqsBackRow.holds Tryz.pinned (OpenSpec.ofChange Rows.seqsBackSpec) :=
  OpenClaim.holds_of_wide 3 Tryz.f3 rfl rfl rfl rfl rfl rfl rfl ⟨rfl, rfl, rfl, rfl, rfl⟩ rfl rfl rfl rfl rfl (by kernel_rfl) Tryz.func3 (by kernel_rfl)
    (of_decide_eq_true (by kernel_rfl)) (by unfold Func.isWrapper; first | (rw [if_pos (by decide +kernel)]; kernel_rfl) | (rw [if_neg (by decide +kernel)]; exact ⟨rfl, rfl⟩))
    (fun os started H enc _ => lifted os started H enc)

/-- The statement. -/
theorem proved : Rows.SeqsBackSaid :=
  over
#print axioms proved
end Go.Proofs.YtdiahnkippoppaaGreat.seqsBack
