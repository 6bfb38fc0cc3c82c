import Derived.Test.YthcbhmgjkecppaaAr
import Derived.ProofKit
import Derived.OpenShut
import Derived.Carry
set_option linter.unusedVariables false
namespace Go.X
open Go.RowKit Go.ChangeShapes Go.ChangeAt Go.WideShapes
/-! ### tables of functions -/
def none0 : Nat → Callee := fun _ _ _ => none
def upd (Γ : Nat → Callee) (n : Nat) (F : Callee) : Nat → Callee := fun f => if f = n then F else Γ f
theorem none0_ok (P : Program) : ∀ f, Sound P f (none0 f) := fun f args hp r hp' h => by simp [none0] at h
theorem upd_ok {P : Program} {Γ : Nat → Callee} {n : Nat} {F : Callee} (h : ∀ f, Sound P f (Γ f)) (hF : Sound P n F) : ∀ f, Sound P f (upd Γ n F f) := fun f => by
  unfold upd
  split
  · rename_i e; subst e; exact hF
  · exact h f
theorem upd_at (Γ : Nat → Callee) (n : Nat) (F : Callee) : upd Γ n F n = F := by simp [upd]
theorem upd_ne (Γ : Nat → Callee) {n m : Nat} (F : Callee) (h : m ≠ n) : upd Γ n F m = Γ m := by simp [upd, h]
/-- How often a loop may turn. -/
@[irreducible] def KK : Nat := 100000
theorem KK_eq : KK = 100000 := by unfold KK; rfl
/-! ### a law -/
/-- Nothing is handed over: all that is there stays. -/
def cx0 (P : Program) (w : World) (τ : Nat → Nat) : Cx := ⟨P, w, fun _ => False, τ, fun _ => ⟨.nilFunc, 0⟩, []⟩
def rho0 : Nat → RV := fun _ => ⟨.nilFunc, 0⟩
theorem law_of {P : Program} {f : Nat} {F : Callee} {args : List AV} {rargs : List Value} {w : World} {hp' : List Ob} (τ : Nat → Nat) (hS : Sound P f F) (h : F args [] = some (.one (.bool true), hp')) (hv : AVRL (cx0 P w τ) 0 rho0 args rargs) :
    Calls P f rargs.toArray w fun e w' => e = .returned (.bool true) ∧ Below w.heap.size w w' := by
  refine Calls.mono ((hS args [] _ _ h).2 (cx0 P w τ) rho0 w rargs rfl rfl rfl hv ⟨fun k o h => by simp at h, fun j k b _ hj => ?_⟩) ?_
  · obtain ⟨o, ho, _⟩ := hj; simp at ho
  · rintro e w' ⟨ρ', rv, rfl, h1, _, h3⟩
    cases h1 with
    | one _ _ h1 =>
      cases h1
      exact ⟨rfl, h3.os, h3.tape, h3.output, h3.size, fun k hk => h3.block k hk (fun h => h)⟩
section
variable {H : Type} {enc : TypeId × Value → H} {P : Program}
theorem trodAll_below (hl : laidOutB P = true) {W W' : World} (hb : Below W.heap.size W W') : ∀ {ts : List TypeId} {vs : List Value} {ds : List (DataW H)} {ps : List MemPlace}, (ts.all fun t => P.readableRec t && decide (t < P.types.size)) = true →
    DataW.TrodAll enc P W 0 (fun _ => true) true ts vs ds ps → (∀ x ∈ ps, x.block < W.heap.size) → DataW.TrodAll enc P W' 0 (fun b => decide (b < W.heap.size)) true ts vs ds ps
  | [], vs, ds, ps, _, h, _ => by
    obtain ⟨rfl, rfl, rfl⟩ := trodAll_nil h
    exact trodAll_mk0
  | t :: ts, vs, ds, ps, hr, h, hlt => by
    simp only [List.all_cons, Bool.and_eq_true, decide_eq_true_eq] at hr
    obtain ⟨v, vs', d, ds', p, q, rfl, rfl, rfl, h0, r0⟩ := trodAll_cons h
    exact trodAll_cons_mk (Below.trod hl hr.1.1 hr.1.2 h0 hb fun x hx => hlt x (by simp [hx])) (trodAll_below hl hb (by simpa using hr.2) r0 fun x hx => hlt x (by simp [hx]))
/-- What a law's row asks behind the call. -/
theorem post_below {f : Func} {s : ChangeSpec} {apart fresh handsOn : Bool} {W W' : World} {args : Array Value} {v : Value} {ds gs : List (DataW H)} {before : List MemPlace} (hl : laidOutB P = true)
    (hr : (f.params.toList.all fun t => P.readableRec t && decide (t < P.types.size)) = true) (hW : DataW.Whole enc P f.params.toList s.vars apart W args.toList ds gs before) (hb : Below W.heap.size W W')
    (hres : ∀ (b : Nat) (sp : Nat → Bool) (hd : Bool), DataW.TrodAll enc P W' b sp hd f.resultTypes.toList (v.resultList f.resultTypes.size) (s.fn H (ds ++ gs)).results [])
    (hargs : (s.fn H (ds ++ gs)).args = ds) (hA : DataW.TrodAll enc P W 0 (fun _ => true) true f.params.toList args.toList ds before) (hvars : ∀ sp : Nat → Bool, DataW.TrodVars enc P W' sp s.vars (s.fn H (ds ++ gs)).vars []) :
    s.post enc P f apart fresh handsOn false W args v W' := by
  have hlt : ∀ x ∈ before, x.block < W.heap.size := fun x hx => by simpa using hW.lt x hx
  refine ⟨ds, gs, before, [], before, [], hW, hres _ _ _, ?_, hvars _, hb.frame _, fun h => by cases h⟩
  rw [hargs]
  exact trodAll_below hl hb hr hA hlt
end
end Go.X
