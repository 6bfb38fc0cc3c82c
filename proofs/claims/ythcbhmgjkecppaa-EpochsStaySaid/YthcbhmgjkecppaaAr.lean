import Derived.Test.YthcbhmgjkecppaaAq
set_option linter.unusedVariables false
namespace Go.X
section
variable {C : Cx} {ρ ρ' : Nat → RV} {hp hp1 : List Ob} {w w' : World} {o : Oper} {a : Act} {env : Env} {Γ : Nat → Callee} {n : Nat}
def resS (tmps : Array Value) : ResultVar → Sem Value
  | .tmp t => pure (tmps.getD t undef)
  | .cell a t => do loadVar t (← asAddr (tmps.getD a undef))
theorem res_one {rv : ResultVar} {r : Nat × Option (Option Nat)} {v : AV} (hc : cRes C.P rv = some r) (hst : StR C ρ n env hp a w) (h : resOf env hp r = some v) : ∃ u, (resS a.tmps rv).run C.P w = .ok u w ∧ AVR C hp.length ρ v u := by
  cases rv with
  | tmp t =>
    simp [cRes] at hc; subst hc
    simp [resOf] at h; subst h
    exact ⟨_, rfl, hst.env t⟩
  | cell t ty =>
    simp only [cRes] at hc
    obtain ⟨b, hb, hc⟩ := bind_some hc
    have h1 := hst.env t
    split at hc
    · rename_i hb'; subst hb'
      obtain ⟨m, hm, rfl⟩ := map_some hc
      simp only [resOf] at h
      cases hl : loadN hp m (getT t env).sv with
      | none => simp [hl, aggAV] at h
      | some s =>
        simp [hl, aggAV] at h; subst h
        obtain ⟨_, h2⟩ := h1.sv_of (by intro e; rw [e] at hl; simp [loadN] at hl)
        obtain ⟨ad, vs, e, hlen, hcell, hv⟩ := loadN_ok h2 hst.heap hst.fr hl
        have hr := run_loadCells_list (P := C.P) w ad vs hcell
        rw [hlen] at hr
        refine ⟨.agg vs.toArray, ?_, .agg _ _ hv⟩
        simp only [resS, e]
        simp [asAddr, loadVar, run_isAgg w hb, run_sizeT w hm, hr]
    · rename_i hb'
      have : b = false := by simpa using hb'
      subst this
      simp at hc; subst hc
      simp only [resOf] at h
      cases hl : loadOne hp (getT t env).sv with
      | none => simp [hl, oneAV] at h
      | some s =>
        simp [hl, oneAV] at h; subst h
        obtain ⟨_, h2⟩ := h1.sv_of (by intro e; rw [e] at hl; exact loadOne_undef hl)
        obtain ⟨ad, v, e, hcell, hv⟩ := loadOne_ok h2 hst.heap hst.fr hl
        refine ⟨v, ?_, .one _ _ hv⟩
        simp only [resS, e]
        simp [asAddr, loadVar, run_isAgg w hb, load, Sem.run, hcell]
theorem res_all (hst : StR C ρ n env hp a w) : ∀ {rvs : List ResultVar} {rs : List (Nat × Option (Option Nat))} {l : List AV}, rvs.mapM (cRes C.P) = some rs → resL env hp rs = some l → ∃ us, (rvs.mapM (resS a.tmps)).run C.P w = .ok us w ∧ AVRL C hp.length ρ l us
  | [], rs, l, hc, h => by
    simp at hc; subst hc
    simp [resL] at h; subst h
    exact ⟨[], by simp, .nil⟩
  | rv :: rvs, rs, l, hc, h => by
    simp only [List.mapM_cons, Option.pure_def, Option.bind_eq_bind, Option.bind_eq_some_iff] at hc
    obtain ⟨r, hr, rs', hrs, e⟩ := hc
    simp at e; subst e
    simp only [resL, Option.bind_eq_some_iff, Option.map_eq_some_iff] at h
    obtain ⟨v, hv, l', hl, rfl⟩ := h
    obtain ⟨u, h1, h2⟩ := res_one hr hst hv
    obtain ⟨us, h3, h4⟩ := res_all hst hrs hl
    refine ⟨u :: us, ?_, .cons _ _ _ _ h2 h4⟩
    simp [List.mapM_cons, h1, h3]
theorem results_eq (fn : Func) (tmps : Array Value) : results fn tmps = (do let vs ← fn.results.mapM (resS tmps); pure (if h : vs.size = 1 then vs[0] else .tuple vs)) := by
  unfold results
  congr 1
theorem AVRL.length {l : List AV} {vs : List Value} (h : AVRL C n ρ l vs) : l.length = vs.length := by
  induction l generalizing vs with
  | nil => cases h; rfl
  | cons s l ih => cases h with | cons _ v _ vs h hl => simp [ih hl]
theorem tup_ok {l : List AV} {us : List Value} (h : AVRL C n ρ l us) : AVR C n ρ (tupOf l) (if h : us.toArray.size = 1 then us.toArray[0] else .tuple us.toArray) := by
  cases h with
  | nil => exact .tup _ _ .nil
  | cons s v l vs h hl =>
    cases hl with
    | nil => simpa [tupOf] using h
    | cons s' v' l vs h' hl => simp only [tupOf]; exact .tup _ _ (.cons _ _ _ _ h (.cons _ _ _ _ h' hl))
theorem argEnv_get : ∀ (l : List AV) (k t : Nat), getT t (argEnv k l) = (if t < k then .one .undef else l.getD (t - k) (.one .undef))
  | [], k, t => by simp [argEnv, getT]
  | v :: l, k, t => by
    simp only [argEnv, getT]
    split
    · rename_i e; subst e; simp
    · rename_i e
      rw [argEnv_get l (k + 1) t]
      by_cases h : t < k
      · rw [if_pos h, if_pos (by omega)]
      · rw [if_neg h, if_neg (by omega)]
        obtain ⟨m, rfl⟩ : ∃ m, t = k + (m + 1) := ⟨t - k - 1, by omega⟩
        rw [show k + (m + 1) - (k + 1) = m by omega, show k + (m + 1) - k = m + 1 by omega]
        simp
theorem fn_ok {P : Program} {f : Nat} {af : AF} {K : Nat} (hΓ : ∀ f, Sound P f (Γ f)) (hm : P.follows .mixedOrders = true) (hc : cFunc P f = some af) : Sound P f (evF Γ K af) := by
  intro args hp r hp' h
  unfold cFunc at hc
  obtain ⟨fn, hf, hc⟩ := bind_some hc
  obtain ⟨c, hb, hc⟩ := bind_some hc
  split at hc
  · rename_i hcond
    obtain ⟨hle, hbody⟩ := hcond
    obtain ⟨rs, hrs, hc⟩ := bind_some hc
    obtain ⟨ac, hac, rfl⟩ := map_some hc
    refine ⟨hbody, fun C ρ w rargs hP hw hD hargs hH => ?_⟩
    subst hP
    refine calls_of_wp hf hb ?_
    have hst : StR C ρ fn.ntmps (argEnv 0 args) hp { tmps := rargs.toArray ++ Array.replicate (fn.ntmps - rargs.toArray.size) undef, defers := [] } w := by
      refine ⟨fun t => ?_, hH, FR.start hw, by simp; omega, hD.symm⟩
      rw [argEnv_get]
      simp only [Nat.not_lt_zero, if_false, Nat.sub_zero]
      by_cases ht : t < args.length
      · obtain ⟨v, hv1, hv2⟩ := hargs.get (List.getElem?_eq_getElem ht)
        have hlt : t < rargs.length := (List.getElem?_eq_some_iff.1 hv1).1
        rw [Array.getD_eq_getD_getElem?, Array.getElem?_append_left (by simpa using hlt)]
        rw [List.getElem?_toArray, hv1]
        simp only [List.getD, List.getElem?_eq_getElem ht, Option.getD_some]
        exact hv2
      · rw [List.getD, List.getElem?_eq_none (by omega)]
        exact .one _ _ (.undef _)
    have hev : ∃ ex st, evC Γ K ac ⟨argEnv 0 args, avsCells args, hp⟩ = some (ex, st) ∧ give st.rts st.hp (resL st.env st.hp rs) = some (r, hp') ∧ (ex = .norm ∨ ex = .ret) := by
      simp only [evF] at h
      unfold resC at h
      split at h
      · rename_i st e; exact ⟨_, st, e, h, .inl rfl⟩
      · rename_i st e; exact ⟨_, st, e, h, .inr rfl⟩
      · simp at h
    obtain ⟨ex, st, hev, hg, hex⟩ := hev
    have fin : ∀ (a1 : Act) (w1 : World), (∃ ρ, StR C ρ fn.ntmps st.env st.hp a1 w1) → a1.defers = [] ∧ ∃ v, (results fn a1.tmps).run C.P w1 = .ok v w1 ∧ ∃ ρ' rv, Ending.returned v = .returned rv ∧ AVR C hp'.length ρ' r rv ∧ HR C ρ' hp' w1 ∧ FR C w1 := by
      rintro a1 w1 ⟨ρ1, hs1⟩
      refine ⟨hs1.defers.trans hD, ?_⟩
      unfold give at hg
      split at hg
      · simp at hg
      · rename_i l hl
        obtain ⟨us, h1, h2⟩ := res_all hs1 hrs hl
        have hf : Fine st.hp (reachL st.hp 64 (st.rts ++ avCells (tupOf l)) []) := reachL_fine st.hp 64 _ [] (Fine.nil st.hp)
        generalize reachL st.hp 64 (st.rts ++ avCells (tupOf l)) [] = ks at hg hf
        simp only [giveKs, Option.some.injEq, Prod.mk.injEq] at hg
        obtain ⟨rfl, rfl⟩ := hg
        refine ⟨(if h : us.toArray.size = 1 then us.toArray[0] else .tuple us.toArray), ?_, rho ρ1 ks, _, rfl, ?_, hs1.heap.pick hf, hs1.fr⟩
        · rw [results_eq, Array.mapM_eq_mapM_toList]
          simp [h1]
        · rw [pick_length]; exact AVR.ren turn_pos (tup_ok h2)
    refine wp_mono (code_ok hΓ hm c _ _ _ ac _ ex st ρ _ w hac hev hst) fun e a1 w1 q => ?_
    cases e <;> simp only [QR] at q <;> try exact q.elim
    · exact fin a1 w1 q.2
    · rcases hex with rfl | rfl <;> exact absurd q.1 (by simp)
    · exact fin a1 w1 q.2
  · simp at hc
end
end Go.X
