import Derived.Test.YthcbhmgjkecppaaAz
set_option linter.unusedVariables false
namespace Go.X
section
variable {C : Cx} {ρ ρ' : Nat → RV} {hp hp1 : List Ob} {w w' : World} {o : Oper} {a : Act} {env : Env} {Γ : Nat → Callee} {n : Nat}
theorem getT_ren (f : Nat → Option Nat) (t : Nat) : ∀ e : Env, getT t (Env.ren f e) = (getT t e).ren f
  | [] => rfl
  | (k, v) :: e => by
    simp only [Env.ren, getT]
    split
    · rfl
    · exact getT_ren f t e
theorem getT_keep (env : Env) (t : Nat) : ∀ l : List Nat, getT t (keep env l) = getT t env ∨ getT t (keep env l) = .one .undef
  | [] => .inr rfl
  | k :: l => by
    simp only [keep, getT]
    split
    · rename_i e; subst e; exact .inl rfl
    · exact getT_keep env t l
theorem StR.tidy {rts : List SV} (h : StR C ρ n env hp a w) : ∃ ρ', StR C ρ' n (tidy env rts hp).env (tidy env rts hp).hp a w := by
  have hf : Fine hp (reachL hp 64 (rts ++ envCells env) []) := reachL_fine hp 64 _ [] (Fine.nil hp)
  unfold Go.X.tidy
  generalize reachL hp 64 (rts ++ envCells env) [] = ks at hf
  refine ⟨rho ρ ks, fun t => ?_, h.heap.pick hf, h.fr, h.size, h.defers⟩
  simp only [tidyKs, pick_length]
  rw [getT_ren]
  exact AVR.ren turn_pos (h.env t)
theorem StR.keep {live : List Nat} (h : StR C ρ n env hp a w) : StR C ρ n (keep env live) hp a w := by
  refine ⟨fun t => ?_, h.heap, h.fr, h.size, h.defers⟩
  rcases getT_keep env t live with e | e
  · rw [e]; exact h.env t
  · rw [e]; exact .one _ _ (.undef _)
theorem StR.head {live : List Nat} {st : St} (h : StR C ρ n st.env st.hp a w) : ∃ ρ', StR C ρ' n (st.head live).env (st.head live).hp a w := h.keep.tidy
theorem bool_of {x : AO} {X : Operand} {t : TypeId} {b : Bool} (hx : cOp C.P t X = some x) (he : EnvR C hp.length ρ env a) (h : getO env x = .one (.bool b)) : a.eval X = .bool b := by
  have h1 := cOp_ok hx he
  rw [h] at h1
  generalize a.eval X = v at h1
  cases h1 with | one _ _ h => cases h; rfl
theorem bad_none {K : Nat} {st : St} {r : Ex × St} : ¬ evC Γ K badC st = some r := by
  intro h
  obtain ⟨env, rts, hp⟩ := st
  simp [badC, evC, evIs, evOp, thenI, normC] at h
theorem code_ok {K : Nat} (hΓ : ∀ f, Sound C.P f (Γ f)) (hm : C.P.follows .mixedOrders = true) : ∀ (c : Code) (l : List Nat) (xs : List (Nat × List Nat)) (r : List Nat) (ac : AC) (st : St) (ex : Ex) (st' : St) (ρ : Nat → RV) (a : Act) (w : World),
    cCode C.P n c l xs r = some ac → evC Γ K ac st = some (ex, st') → StR C ρ n st.env st.hp a w → c.wp C.P (QR C n ex st') a w
  | .skip, l, xs, r, ac, st, ex, st', ρ, a, w, hc, h, hst => by
    simp [cCode] at hc; subst hc
    simp [evC] at h; obtain ⟨rfl, rfl⟩ := h
    exact wp_skip ⟨rfl, ρ, hst⟩
  | .region id ops d, l, xs, r, ac, st, ex, st', ρ, a, w, hc, h, hst => by
    simp only [cCode] at hc
    obtain ⟨ais, hi, hc2⟩ := map_some hc
    clear hc
    split at hc2
    · rename_i hd; subst hd
      subst hc2
      exact drawB_ok hΓ hm hi (fun ⟨_, h⟩ => bad_none h) hst h
    · rename_i hd
      have : d = false := by simpa using hd
      subst this
      subst hc2
      simp only [evC] at h
      unfold normC at h
      split at h
      · simp at h
      · rename_i st1 hs
        simp at h; obtain ⟨rfl, rfl⟩ := h
        obtain ⟨env, rts, hp⟩ := st
        refine wp_region ?_
        have := ops_ok (rts := rts) hΓ ops.toList 0 ais ρ env hp a w (by simp) hi hst hs
        simpa [List.range_eq_range'] using this
  | .seq x y, l, xs, r, ac, st, ex, st', ρ, a, w, hc, h, hst => by
    simp only [cCode] at hc
    obtain ⟨⟨ax, ay⟩, hb, rfl⟩ := map_some hc
    obtain ⟨hx, hy⟩ := both_ok hb
    simp only [evC] at h
    unfold thenC at h
    split at h
    · simp at h
    · rename_i st1 h1
      refine wp_seq (wp_mono (code_ok hΓ hm x _ _ _ _ _ _ _ ρ a w hx h1 hst) fun e a1 w1 q => ?_)
      cases e <;> simp only [QR] at q <;> try exact q.elim
      · obtain ⟨_, ρ1, hst1⟩ := q
        exact code_ok hΓ hm y _ _ _ _ _ _ _ ρ1 a1 w1 hy h hst1
      · exact absurd q.1 (by simp)
      · exact absurd q.1 (by simp)
    · rename_i i st1 h1
      simp at h; obtain ⟨rfl, rfl⟩ := h
      refine wp_seq (wp_mono (code_ok hΓ hm x _ _ _ _ _ _ _ ρ a w hx h1 hst) fun e a1 w1 q => ?_)
      cases e <;> simp only [QR] at q <;> try exact q.elim
      · exact absurd q.1 (by simp)
      · first | exact ⟨rfl, q.2⟩ | exact ⟨q.1, q.2⟩
      · exact absurd q.1 (by simp)
    · rename_i st1 h1
      simp at h; obtain ⟨rfl, rfl⟩ := h
      refine wp_seq (wp_mono (code_ok hΓ hm x _ _ _ _ _ _ _ ρ a w hx h1 hst) fun e a1 w1 q => ?_)
      cases e <;> simp only [QR] at q <;> try exact q.elim
      · exact absurd q.1 (by simp)
      · exact absurd q.1 (by simp)
      · first | exact ⟨rfl, q.2⟩ | exact ⟨q.1, q.2⟩
  | .cond c x y, l, xs, r, ac, st, ex, st', ρ, a, w, hc, h, hst => by
    simp only [cCode] at hc
    obtain ⟨co, hco, hc⟩ := bind_some hc
    obtain ⟨⟨ax, ay⟩, hb, rfl⟩ := map_some hc
    obtain ⟨hx, hy⟩ := both_ok hb
    simp only [evC] at h
    unfold branchC at h
    split at h
    · rename_i t ht
      refine wp_cond (bool_of hco hst.env ht) ?_
      cases t
      · simp only [Bool.false_eq_true, if_false] at h ⊢
        exact code_ok hΓ hm y _ _ _ _ _ _ _ ρ a w hy h hst
      · simp only [if_true] at h ⊢
        exact code_ok hΓ hm x _ _ _ _ _ _ _ ρ a w hx h hst
    · simp at h
  | .block id x, l, xs, r, ac, st, ex, st', ρ, a, w, hc, h, hst => by
    simp only [cCode] at hc
    obtain ⟨ax, hx, rfl⟩ := map_some hc
    simp only [evC] at h
    unfold blockC at h
    split at h
    · simp at h
    · rename_i st1 h1
      simp at h; obtain ⟨rfl, rfl⟩ := h
      refine wp_block (wp_mono (code_ok hΓ hm x _ _ _ _ _ _ _ ρ a w hx h1 hst) fun e a1 w1 q => ?_)
      cases e <;> simp only [QR] at q <;> try exact q.elim
      · first | exact ⟨rfl, q.2⟩ | exact ⟨q.1, q.2⟩
      · exact absurd q.1 (by simp)
      · exact absurd q.1 (by simp)
    · rename_i i st1 h1
      refine wp_block (wp_mono (code_ok hΓ hm x _ _ _ _ _ _ _ ρ a w hx h1 hst) fun e a1 w1 q => ?_)
      cases e <;> simp only [QR] at q <;> try exact q.elim
      · exact absurd q.1 (by simp)
      · rename_i i'
        obtain ⟨e, ρ1, q⟩ := q
        simp at e; subst e
        simp only [Exit.inBlock]
        split at h
        · rename_i hid; simp at h; obtain ⟨rfl, rfl⟩ := h
          rw [if_pos hid.symm]; exact ⟨rfl, ρ1, q⟩
        · rename_i hid; simp at h; obtain ⟨rfl, rfl⟩ := h
          rw [if_neg (Ne.symm hid)]; exact ⟨rfl, ρ1, q⟩
      · exact absurd q.1 (by simp)
    · rename_i st1 h1
      simp at h; obtain ⟨rfl, rfl⟩ := h
      refine wp_block (wp_mono (code_ok hΓ hm x _ _ _ _ _ _ _ ρ a w hx h1 hst) fun e a1 w1 q => ?_)
      cases e <;> simp only [QR] at q <;> try exact q.elim
      · exact absurd q.1 (by simp)
      · exact absurd q.1 (by simp)
      · first | exact ⟨rfl, q.2⟩ | exact ⟨q.1, q.2⟩
  | .loop x, l, xs, r, ac, st, ex, st', ρ, a, w, hc, h, hst => by
    simp only [cCode] at hc
    obtain ⟨ax, hx, rfl⟩ := map_some hc
    simp only [evC] at h
    generalize sortN (liveC (.loop x) [] xs r) = live at h
    refine wp_loop_ghost (fun k a w => ∃ ρ st, StR C ρ n st.env st.hp a w ∧ loopN (evC Γ K ax) live k st = some (ex, st')) K ⟨ρ, st, hst, h⟩ ?_
    rintro k a1 w1 ⟨ρ1, st1, hst1, h1⟩
    cases k with
    | zero => simp [loopN] at h1
    | succ k =>
      simp only [loopN] at h1
      obtain ⟨ρ2, hst2⟩ := hst1.head (live := live)
      unfold thenC at h1
      split at h1
      · simp at h1
      · rename_i st2 h2
        refine wp_mono (code_ok hΓ hm x _ _ _ _ _ _ _ ρ2 a1 w1 hx h2 hst2) fun e a3 w3 q => ?_
        cases e <;> simp only [QR] at q <;> try exact q.elim
        · obtain ⟨_, ρ3, q⟩ := q
          exact ⟨k, Nat.lt_succ_self _, ρ3, st2, q, h1⟩
        · exact absurd q.1 (by simp)
        · exact absurd q.1 (by simp)
      · rename_i i st2 h2
        simp at h1; obtain ⟨rfl, rfl⟩ := h1
        refine wp_mono (code_ok hΓ hm x _ _ _ _ _ _ _ ρ2 a1 w1 hx h2 hst2) fun e a3 w3 q => ?_
        cases e <;> simp only [QR] at q <;> try exact q.elim
        · exact absurd q.1 (by simp)
        · first | exact ⟨rfl, q.2⟩ | exact ⟨q.1, q.2⟩
        · exact absurd q.1 (by simp)
      · rename_i st2 h2
        simp at h1; obtain ⟨rfl, rfl⟩ := h1
        refine wp_mono (code_ok hΓ hm x _ _ _ _ _ _ _ ρ2 a1 w1 hx h2 hst2) fun e a3 w3 q => ?_
        cases e <;> simp only [QR] at q <;> try exact q.elim
        · exact absurd q.1 (by simp)
        · exact absurd q.1 (by simp)
        · first | exact ⟨rfl, q.2⟩ | exact ⟨q.1, q.2⟩
  | .exit id, l, xs, r, ac, st, ex, st', ρ, a, w, hc, h, hst => by
    simp [cCode] at hc; subst hc
    simp [evC] at h; obtain ⟨rfl, rfl⟩ := h
    exact wp_exit ⟨rfl, ρ, hst⟩
  | .scope x, l, xs, r, ac, st, ex, st', ρ, a, w, hc, h, hst => by
    simp only [cCode] at hc
    obtain ⟨ax, hx, rfl⟩ := map_some hc
    simp only [evC] at h
    refine wp_scope_straight (wp_mono (code_ok hΓ hm x _ _ _ _ _ _ _ ρ a w hx h hst) fun e a1 w1 q => ?_)
    cases e <;> simp only [QR] at q <;> first | exact ⟨q.1, q.2⟩ | exact q.elim
  | .ret, l, xs, r, ac, st, ex, st', ρ, a, w, hc, h, hst => by
    simp [cCode] at hc; subst hc
    simp [evC] at h; obtain ⟨rfl, rfl⟩ := h
    exact wp_ret ⟨rfl, ρ, hst⟩
  | .rangeFunc _ _ _ _, _, _, _, _, _, _, _, _, _, _, hc, h, _ => by simp [cCode] at hc; subst hc; exact absurd h bad_none
  | .label _, _, _, _, _, _, _, _, _, _, _, hc, h, _ => by simp [cCode] at hc; subst hc; exact absurd h bad_none
  | .goto _, _, _, _, _, _, _, _, _, _, _, hc, h, _ => by simp [cCode] at hc; subst hc; exact absurd h bad_none
  | .refuse _, _, _, _, _, _, _, _, _, _, _, hc, h, _ => by simp [cCode] at hc; subst hc; exact absurd h bad_none
end
end Go.X
