import Derived.Test.YthcbhmgjkecppaaAl
set_option linter.unusedVariables false
namespace Go.X
/-! ### a call -/
/-- What a function comes to, as it is told: the run of its code does just that. -/
def Sound (P : Program) (f : Nat) (F : Callee) : Prop :=
  ∀ (args : List AV) (hp : List Ob) (r : AV) (hp' : List Ob), F args hp = some (r, hp') → hasBody P f = true ∧ ∀ (C : Cx) (ρ : Nat → RV) (w : World) (rargs : List Value), C.P = P → C.w0 = w → C.df = [] → AVRL C hp.length ρ args rargs → HR C ρ hp w →
    Calls P f rargs.toArray w (fun e w' => ∃ ρ' rv, e = .returned rv ∧ AVR C hp'.length ρ' r rv ∧ HR C ρ' hp' w' ∧ FR C w')
theorem run_enter {P : Program} {f : Nat} (h : hasBody P f = true) (args : Array Value) (w : World) : (callFunc f args).run P w = .ok (.enter f args) w := by
  unfold hasBody at h
  split at h
  · rename_i fn hf
    simp only [Bool.and_eq_true, Bool.not_eq_true'] at h
    obtain ⟨h1, h2⟩ := h
    have h1' : ¬ fn.name = "runtime.NumGoroutine" := by simpa using h1
    have h3 : ¬ fn.body = none := by rintro e; simp [e] at h2
    simp [callFunc, hf, h1', h3]
  · simp at h
section
variable {C : Cx} {ρ : Nat → RV} {hp : List Ob} {w : World} {o : Oper} {a : Act} {env : Env}
theorem FR.start {C : Cx} {w : World} (h : C.w0 = w) : FR C w := by
  subst h; exact ⟨Nat.le_refl _, fun _ _ _ => rfl, rfl, rfl, rfl⟩
theorem g_enterK {f : Nat} {args : List AV} {vs : List Value} {Γ : Nat → Callee} {res : AV × List Ob} (hΓ : ∀ f, Sound C.P f (Γ f)) (hr : hasBody C.P f = true → (execOp a.eval o).run C.P w = .ok (.enter f vs.toArray) w)
    (hv : AVRL C hp.length ρ args vs) (hH : HR C ρ hp w) (hF : FR C w) {ks : List Nat} {m : Bool} (hf : Fine hp ks) (h : callKs m Γ hp f args ks = some res) : Good C ρ hp o a w res := by
  unfold callKs at h
  unfold comeBack at h
  split at h
  · simp at h
  · rename_i r os hc
    simp only [Option.some.injEq] at h; subst h
    obtain ⟨hb, hs⟩ := hΓ f _ _ _ _ hc
    intro K Q k
    show o.upon C.P a K Q _
    rw [hr hb, Oper.upon_enter]
    have hl : (tagAll m 0 (pick hp (posF ks) ks)).length = ks.length := by rw [tagAll_length, pick_length]
    refine Calls.mono (hs (C.callee ρ ks w (argCells args) []) (rho ρ ks) w vs rfl rfl rfl ?_ (handed_ok hF hH hf)) ?_
    · rw [hl]; exact lendArgs_ok hF hH hf hv (fun i s h => by simpa using h)
    · rintro e w' ⟨ρc, rv, rfl, h1, h2, h3⟩
      obtain ⟨ρ1, e1, e2, e3, e4, e5⟩ := call_back hF hH hf (lent_of hv) h2 h3 h1
      exact k ρ1 rv w' e2 e1 e3 e4 e5
theorem g_enter {f : Nat} {args : List AV} {vs : List Value} {Γ : Nat → Callee} {res : AV × List Ob} (hΓ : ∀ f, Sound C.P f (Γ f)) (hr : hasBody C.P f = true → (execOp a.eval o).run C.P w = .ok (.enter f vs.toArray) w)
    (hv : AVRL C hp.length ρ args vs) (hH : HR C ρ hp w) (hF : FR C w) (h : callee Γ hp f args = some res) : Good C ρ hp o a w res :=
  g_enterK hΓ hr hv hH hF (reachL_fine hp 64 _ [] (Fine.nil hp)) h
theorem callops_inv {P : Program} {o : Oper} {op : AOp} (h : cOper P o = some op) :
    (∀ f l, op = .call f l → ∃ c, o.op = .call c ∧ c.callee = .value (.func f) ∧ cOps P c.argTypes.toList c.args.toList = some l) ∧
    (∀ x l, op = .callv x l → ∃ c t, o.op = .call c ∧ c.callee = .value (.tmp t) ∧ x = .tmp t ∧ cOps P c.argTypes.toList c.args.toList = some l) ∧
    (∀ f l, op = .callo f l → ∃ c, o.op = .call c ∧ c.callee = .value (.func f) ∧ cOps P c.argTypes.toList c.args.toList = some l) ∧
    (∀ f l, op = .calli f l → ∃ c, o.op = .call c ∧ c.callee = .value (.func f) ∧ cOps P c.argTypes.toList c.args.toList = some l) := by
  unfold cOper at h
  split at h
  case h_20 c e =>
    split at h
    · rename_i b hb
      unfold cBuiltin at h
      refine ⟨?_, ?_, ?_, ?_⟩ <;> rintro _ _ rfl <;> (repeat' split at h) <;> simp [Option.map_eq_some_iff, Option.bind_eq_some_iff] at h
    · rename_i f hb
      split at h
      · obtain ⟨l', hl, e1⟩ := map_some h
        unfold callOf at e1
        split at e1
        · subst e1
          refine ⟨?_, ?_, ?_, ?_⟩
          · rintro _ _ e'; simp at e'
          · rintro _ _ e'; simp at e'
          · rintro _ _ e'; simp at e'; obtain ⟨rfl, rfl⟩ := e'; exact ⟨c, e, hb, hl⟩
          · rintro _ _ e'; simp at e'
        · split at e1
          · subst e1
            refine ⟨?_, ?_, ?_, ?_⟩
            · rintro _ _ e'; simp at e'
            · rintro _ _ e'; simp at e'
            · rintro _ _ e'; simp at e'
            · rintro _ _ e'; simp at e'; obtain ⟨rfl, rfl⟩ := e'; exact ⟨c, e, hb, hl⟩
          · subst e1
            refine ⟨?_, ?_, ?_, ?_⟩
            · rintro _ _ e'; simp at e'; obtain ⟨rfl, rfl⟩ := e'; exact ⟨c, e, hb, hl⟩
            · rintro _ _ e'; simp at e'
            · rintro _ _ e'; simp at e'
            · rintro _ _ e'; simp at e'
      · simp at h
    · rename_i t hb
      obtain ⟨l', hl, rfl⟩ := map_some h
      refine ⟨?_, ?_, ?_, ?_⟩
      · rintro _ _ e'; simp at e'
      · rintro _ _ e'; simp at e'; obtain ⟨rfl, rfl⟩ := e'; exact ⟨c, t, e, hb, rfl, hl⟩
      · rintro _ _ e'; simp at e'
      · rintro _ _ e'; simp at e'
    · simp at h
  all_goals
    (try unfold cBin at h)
    (try unfold cConv at h)
    (refine ⟨?_, ?_, ?_, ?_⟩ <;> rintro _ _ rfl <;> (repeat' split at h) <;> simp [Option.map_eq_some_iff, Option.bind_eq_some_iff] at h)
theorem AVRL.append {n : Nat} {l m : List AV} {vs us : List Value} (h : AVRL C n ρ l vs) (h' : AVRL C n ρ m us) : AVRL C n ρ (l ++ m) (vs ++ us) := by
  induction l generalizing vs with
  | nil => cases h; exact h'
  | cons s' l ih => cases h with | cons _ v' _ vs h hl => exact .cons _ _ _ _ h (ih hl)
theorem ones {n : Nat} : ∀ {l : List SV} {vs : List Value}, VRL C n ρ l vs → AVRL C n ρ (l.map AV.one) vs
  | _, _, .nil => .nil
  | _, _, .cons s v l vs h hl => .cons _ _ _ _ (.one _ _ h) (ones hl)
theorem g_call {f : Nat} {l : List AO} {Γ : Nat → Callee} {res : AV × List Ob} (hΓ : ∀ f, Sound C.P f (Γ f)) (hc : cOper C.P o = some (.call f l)) (he : EnvR C hp.length ρ env a) (hH : HR C ρ hp w) (hF : FR C w)
    (h : evOp Γ env hp (.call f l) = some res) : Good C ρ hp o a w res := by
  obtain ⟨c, ho, hcal, hl⟩ := (callops_inv hc).1 f l rfl
  refine g_enter hΓ (fun hb => ?_) (cOps_ok he hl) hH hF h
  obtain ⟨dst, op', type, pos, after, guard⟩ := o
  dsimp only at ho; subst ho
  have e : (c.args.toList.map a.eval).toArray = c.args.map a.eval := by
    apply Array.ext'; simp
  rw [e]
  have := run_enter hb (c.args.map a.eval) w
  simp [execOp, resolve, hcal, Deferred.ofValue, invoke, Act.eval, this]
theorem g_callo {f : Nat} {l : List AO} {Γ : Nat → Callee} {res : AV × List Ob} (hΓ : ∀ f, Sound C.P f (Γ f)) (hc : cOper C.P o = some (.callo f l)) (he : EnvR C hp.length ρ env a) (hH : HR C ρ hp w) (hF : FR C w)
    (h : evOp Γ env hp (.callo f l) = some res) : Good C ρ hp o a w res := by
  obtain ⟨c, ho, hcal, hl⟩ := (callops_inv hc).2.2.1 f l rfl
  refine g_enterK hΓ (fun hb => ?_) (cOps_ok he hl) hH hF (reachL_fine hp 64 _ [] (Fine.nil hp)) h
  obtain ⟨dst, op', type, pos, after, guard⟩ := o
  dsimp only at ho; subst ho
  have e : (c.args.toList.map a.eval).toArray = c.args.map a.eval := by
    apply Array.ext'; simp
  rw [e]
  have := run_enter hb (c.args.map a.eval) w
  simp [execOp, resolve, hcal, Deferred.ofValue, invoke, Act.eval, this]
theorem g_calli {f : Nat} {l : List AO} {Γ : Nat → Callee} {res : AV × List Ob} (hΓ : ∀ f, Sound C.P f (Γ f)) (hc : cOper C.P o = some (.calli f l)) (he : EnvR C hp.length ρ env a) (hH : HR C ρ hp w) (hF : FR C w)
    (h : evOp Γ env hp (.calli f l) = some res) : Good C ρ hp o a w res := by
  obtain ⟨c, ho, hcal, hl⟩ := (callops_inv hc).2.2.2 f l rfl
  refine g_enterK hΓ (fun hb => ?_) (cOps_ok he hl) hH hF (reachL_fine hp 64 _ [] (Fine.nil hp)) h
  obtain ⟨dst, op', type, pos, after, guard⟩ := o
  dsimp only at ho; subst ho
  have e : (c.args.toList.map a.eval).toArray = c.args.map a.eval := by
    apply Array.ext'; simp
  rw [e]
  have := run_enter hb (c.args.map a.eval) w
  simp [execOp, resolve, hcal, Deferred.ofValue, invoke, Act.eval, this]
theorem g_callv {x : AO} {l : List AO} {Γ : Nat → Callee} {res : AV × List Ob} (hΓ : ∀ f, Sound C.P f (Γ f)) (hc : cOper C.P o = some (.callv x l)) (he : EnvR C hp.length ρ env a) (hH : HR C ρ hp w) (hF : FR C w)
    (h : evOp Γ env hp (.callv x l) = some res) : Good C ρ hp o a w res := by
  obtain ⟨c, t, ho, hcal, rfl, hl⟩ := (callops_inv hc).2.1 x l rfl
  have h1 := he t
  simp only [evOp, oCallv, getO] at h
  generalize getT t env = s at h h1
  split at h
  · rename_i f caps
    generalize hv : a.tmps.getD t undef = v at h1
    cases h1 with
    | one _ _ h1 =>
      cases h1 with
      | fn _ _ cs hcs =>
        refine g_enterK hΓ (fun hb => ?_) ((cOps_ok he hl).append (ones hcs)) hH hF (reachL_fine hp 64 _ [] (Fine.nil hp)) h
        obtain ⟨dst, op', type, pos, after, guard⟩ := o
        dsimp only at ho; subst ho
        have e : (c.args.toList.map a.eval ++ cs).toArray = c.args.map a.eval ++ cs.toArray := by
          apply Array.ext'; simp
        rw [e]
        have := run_enter hb (c.args.map a.eval ++ cs.toArray) w
        have hv' : a.eval (.tmp t) = .func (.func f) #[] cs.toArray := hv
        simp [execOp, resolve, hcal, Deferred.ofValue, invoke, hv', this]
  · simp at h
end
end Go.X
