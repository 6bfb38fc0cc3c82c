import Derived.Test.YthcbhmgjkecppaaAn
set_option linter.unusedVariables false
namespace Go.X
/-! ### what an operation looks at -/
section
variable {Γ : Nat → Callee} {env env' : Env}
theorem getO_congr {x : AO} (h : ∀ t ∈ aoT x, getT t env = getT t env') : getO env x = getO env' x := by
  cases x with
  | tmp t => exact h t (by simp [aoT])
  | const v => rfl
theorem getS_congr {x : AO} (h : ∀ t ∈ aoT x, getT t env = getT t env') : getS env x = getS env' x := by
  simp only [getS, getO_congr h]
theorem getSo_congr {x : Option AO} (h : ∀ t ∈ aoO x, getT t env = getT t env') : getSo env x = getSo env' x := by
  cases x with
  | none => rfl
  | some x => simp only [getSo]; rw [getS_congr h]
theorem getL_congr : ∀ {l : List AO}, (∀ t ∈ aoL l, getT t env = getT t env') → getL env l = getL env' l
  | [], _ => rfl
  | x :: l, h => by
    simp only [aoL, List.mem_append] at h
    simp only [getL]; rw [getO_congr fun t ht => h t (.inl ht), getL_congr fun t ht => h t (.inr ht)]
theorem getSL_congr : ∀ {l : List AO}, (∀ t ∈ aoL l, getT t env = getT t env') → getSL env l = getSL env' l
  | [], _ => rfl
  | x :: l, h => by
    simp only [aoL, List.mem_append] at h
    simp only [getSL]; rw [getS_congr fun t ht => h t (.inl ht), getSL_congr fun t ht => h t (.inr ht)]
theorem getPP_congr : ∀ {l : List ((Nat × Nat) × AO)}, (∀ t ∈ aoPP l, getT t env = getT t env') → getPP env l = getPP env' l
  | [], _ => rfl
  | x :: l, h => by
    simp only [aoPP, List.mem_append] at h
    simp only [getPP]; rw [getO_congr fun t ht => h t (.inl ht), getPP_congr fun t ht => h t (.inr ht)]
theorem getPs_congr : ∀ {l : List (Nat × AO)}, (∀ t ∈ aoPs l, getT t env = getT t env') → getPs env l = getPs env' l
  | [], _ => rfl
  | x :: l, h => by
    simp only [aoPs, List.mem_append] at h
    simp only [getPs]; rw [getO_congr fun t ht => h t (.inl ht), getPs_congr fun t ht => h t (.inr ht)]
theorem evOp_congr {op : AOp} (h : ∀ t ∈ opT op, getT t env = getT t env') (hp : List Ob) : evOp Γ env hp op = evOp Γ env' hp op := by
  cases op <;> simp only [opT, List.mem_append] at h
  case mv x => simp only [evOp, getO_congr h]
  case newNil => rfl
  case pick c x y => simp only [evOp, getO_congr fun t ht => h t (.inl ht), getO_congr fun t ht => h t (.inr (.inl ht)), getO_congr fun t ht => h t (.inr (.inr ht))]
  case alloc => rfl
  case box x => simp only [evOp, getO_congr h]
  case build z ps => simp only [evOp, getPP_congr h]
  case bslice c0 z l ps => simp only [evOp, getPs_congr h]
  case load m x => cases m <;> simp only [evOp, getS_congr h]
  case store m x v => simp only [evOp, getS_congr fun t ht => h t (.inl ht), getO_congr fun t ht => h t (.inr ht)]
  case storeNil c x => simp only [evOp, getS_congr h]
  case nilCheck x => simp only [evOp, getO_congr h]
  case bin op x y => simp only [evOp, getS_congr fun t ht => h t (.inl ht), getS_congr fun t ht => h t (.inr ht)]
  case eqNil b x => simp only [evOp, getO_congr h]
  case eqAgg b z x y => simp only [evOp, getO_congr fun t ht => h t (.inl ht), getO_congr fun t ht => h t (.inr ht)]
  case eqB b x y => simp only [evOp, getO_congr fun t ht => h t (.inl ht), getO_congr fun t ht => h t (.inr ht)]
  case un op x => simp only [evOp, getS_congr h]
  case conv k x => simp only [evOp, getO_congr h]
  case sconv x => simp only [evOp, getO_congr h]
  case s2b x => simp only [evOp, getO_congr h]
  case b2s x => simp only [evOp, getS_congr h]
  case cutS x lo hi => simp only [evOp, getO_congr fun t ht => h t (.inl ht), getSo_congr fun t ht => h t (.inr (.inl ht)), getSo_congr fun t ht => h t (.inr (.inr ht))]
  case cutR n x lo hi => simp only [evOp, getS_congr fun t ht => h t (.inl ht), getSo_congr fun t ht => h t (.inr (.inl ht)), getSo_congr fun t ht => h t (.inr (.inr ht))]
  case cutA n x lo hi => simp only [evOp, getO_congr fun t ht => h t (.inl ht), getSo_congr fun t ht => h t (.inr (.inl ht)), getSo_congr fun t ht => h t (.inr (.inr ht))]
  case fadr n x => simp only [evOp, getO_congr h]
  case fld n m x => simp only [evOp, getO_congr h]
  case iadrR n x i => simp only [evOp, getS_congr fun t ht => h t (.inl ht), getO_congr fun t ht => h t (.inr ht)]
  case iadrA n m x i => simp only [evOp, getO_congr fun t ht => h t (.inl ht), getO_congr fun t ht => h t (.inr ht)]
  case idxA n m k x i => simp only [evOp, getO_congr fun t ht => h t (.inl ht), getO_congr fun t ht => h t (.inr ht)]
  case idxS x i => simp only [evOp, getO_congr fun t ht => h t (.inl ht), getO_congr fun t ht => h t (.inr ht)]
  case extract i x => simp only [evOp, getO_congr h]
  case call f l => simp only [evOp, getL_congr h]
  case callo f l => simp only [evOp, getL_congr h]
  case calli f l => simp only [evOp, getL_congr h]
  case pcall f l => simp only [evOp, getL_congr h]
  case callv x l => simp only [evOp, getO_congr fun t ht => h t (.inl ht), getL_congr fun t ht => h t (.inr ht)]
  case lenS x => simp only [evOp, getO_congr h]
  case len x => simp only [evOp, getS_congr h]
  case append c n x y => simp only [evOp, getS_congr fun t ht => h t (.inl ht), getS_congr fun t ht => h t (.inr ht)]
  case appZ c z n x y => simp only [evOp, getS_congr fun t ht => h t (.inl ht), getO_congr fun t ht => h t (.inr ht)]
  case copy x y => simp only [evOp, getS_congr fun t ht => h t (.inl ht), getS_congr fun t ht => h t (.inr ht)]
  case min l => simp only [evOp, getL_congr h]
  case max l => simp only [evOp, getL_congr h]
  case mkfn f l => simp only [evOp, getSL_congr h]
  case mks c z n x y => simp only [evOp, getO_congr fun t ht => h t (.inl ht), getO_congr fun t ht => h t (.inr ht)]
  case bad => rfl
theorem noNil_cells : ∀ {z : List ZV}, noNil z = true → ∀ hp hp2 : List Ob, (zcells z hp).2 = hp ∧ (zcells z hp).1 = (zcells z hp2).1
  | [], _, hp, hp2 => ⟨rfl, rfl⟩
  | .sv v :: z, h, hp, hp2 => by
    obtain ⟨h1, h2⟩ := noNil_cells (z := z) h hp hp2
    exact ⟨h1, by simp only [zcells, h2]⟩
  | .nil _ :: _, h, _, _ => by simp [noNil] at h
theorem plainOut_some' {hp hp1 : List Ob} {r : Res} {v : AV} (h : plainOut hp r = some (v, hp1)) : r = some (v, []) ∧ v.plain = true ∧ hp1 = hp := by
  unfold plainOut at h
  split at h
  · split at h
    · simp at h
      obtain ⟨rfl, rfl⟩ := h
      exact ⟨rfl, by assumption, rfl⟩
    · simp at h
  · simp at h
/-- What neither reads memory nor turns it. -/
theorem pure_op {op : AOp} {hp hp1 : List Ob} {v : AV} (hk : opKind op = 0) (h : evOp Γ env hp op = some (v, hp1)) : hp1 = hp ∧ ∀ hp2, evOp Γ env hp2 op = some (v, hp2) := by
  cases op <;> simp [opKind] at hk
  case mv x => simp [evOp] at h ⊢; exact ⟨h.2.symm, h.1⟩
  case pick c x y =>
    simp only [evOp] at h ⊢; unfold oPick at h ⊢
    split at h <;> simp at h ⊢
    exact ⟨h.2.symm, h.1⟩
  case pcall f l =>
    simp only [evOp] at h ⊢
    unfold pureCall at h ⊢
    split at h
    · rename_i hp0
      obtain ⟨h1, h2, h3⟩ := plainOut_some' h
      refine ⟨h3, fun hp2 => ?_⟩
      rw [if_pos hp0, h1]
      simp [plainOut, h2]
    · simp at h
  case build z ps =>
    simp only [evOp] at h ⊢
    obtain ⟨e1, _⟩ := noNil_cells hk hp hp
    rw [e1] at h
    split at h
    · rename_i hc
      refine ⟨?_, fun hp2 => ?_⟩
      · unfold putL at h; split at h <;> simp at h; exact h.2.symm
      · obtain ⟨e3, _⟩ := noNil_cells hk hp2 hp2
        obtain ⟨_, e2⟩ := noNil_cells hk hp hp2
        rw [if_pos hc, e3, ← e2]
        unfold putL at h ⊢; split at h <;> simp at h ⊢; exact h.1
    · simp at h
  case nilCheck x =>
    simp only [evOp] at h ⊢; unfold oNilCheck at h ⊢
    split at h <;> simp at h ⊢ <;> exact ⟨h.2.symm, h.1⟩
  case bin op x y =>
    simp only [evOp] at h ⊢; unfold put1 at h ⊢
    split at h <;> simp at h ⊢
    exact ⟨h.2.symm, h.1⟩
  case eqNil b x =>
    simp only [evOp] at h ⊢; unfold oEqNil at h ⊢
    split at h <;> simp at h ⊢ <;> exact ⟨h.2.symm, h.1⟩
  case eqAgg b z x y =>
    simp only [evOp] at h ⊢; unfold oEqAgg at h ⊢
    split at h
    · unfold putB at h ⊢
      split at h <;> simp at h ⊢
      exact ⟨h.2.symm, h.1⟩
    · simp at h
  case eqB b x y =>
    simp only [evOp] at h ⊢; unfold oEqB at h ⊢
    split at h
    · unfold putB at h ⊢
      simp at h ⊢
      exact ⟨h.2.symm, h.1⟩
    · simp at h
  case un op x =>
    simp only [evOp] at h ⊢; unfold put1 at h ⊢
    split at h <;> simp at h ⊢
    exact ⟨h.2.symm, h.1⟩
  case conv k x =>
    simp only [evOp] at h ⊢; unfold oConv at h ⊢
    split at h <;> simp at h ⊢
    exact ⟨h.2.symm, h.1⟩
  case sconv x =>
    simp only [evOp] at h ⊢; unfold oSconv at h ⊢
    split at h <;> simp at h ⊢
    exact ⟨h.2.symm, h.1⟩
  case cutS x lo hi =>
    simp only [evOp] at h ⊢; unfold oCutS at h ⊢
    split at h
    · unfold cutS2 at h ⊢
      split at h
      · split at h <;> simp at h
        rename_i hc
        simp only [if_pos hc]
        simp; exact ⟨h.2.symm, h.1⟩
      · simp at h
    · simp at h
  case cutA n x lo hi =>
    simp only [evOp] at h ⊢; unfold oCutA at h ⊢
    split at h
    · unfold cutA2 at h ⊢
      split at h
      · split at h <;> simp at h
        rename_i hc
        simp only [if_pos hc]
        simp; exact ⟨h.2.symm, h.1⟩
      · simp at h
    · simp at h
  case fadr n x =>
    simp only [evOp] at h ⊢; unfold oFadr at h ⊢
    split at h <;> simp at h ⊢ <;> exact ⟨h.2.symm, h.1⟩
  case fld n m x =>
    simp only [evOp] at h ⊢; unfold oFld at h ⊢
    split at h
    · unfold putA at h ⊢
      split at h <;> simp at h ⊢
      exact ⟨h.2.symm, h.1⟩
    · simp at h
  case iadrA n m x i =>
    simp only [evOp] at h ⊢; unfold oIadrA at h ⊢
    split at h
    · split at h <;> simp at h
      rename_i hc
      simp only [if_pos hc]
      simp; exact ⟨h.2.symm, h.1⟩
    · simp at h
  case idxA n m k x i =>
    simp only [evOp] at h ⊢; unfold oIdxA at h ⊢
    split at h
    · split at h
      · rename_i hc
        simp only [if_pos hc]
        unfold putA at h ⊢
        split at h <;> simp at h ⊢
        exact ⟨h.2.symm, h.1⟩
      · simp at h
    · simp at h
  case idxS x i =>
    simp only [evOp] at h ⊢; unfold oIdxS at h ⊢
    split at h
    · split at h <;> simp at h
      rename_i hc
      simp only [if_pos hc]
      simp; exact ⟨h.2.symm, h.1⟩
    · simp at h
  case extract i x =>
    simp only [evOp] at h ⊢; unfold oExtract at h ⊢
    split at h
    · unfold putA at h ⊢
      split at h <;> simp at h ⊢
      exact ⟨h.2.symm, h.1⟩
    · simp at h
  case lenS x =>
    simp only [evOp] at h ⊢; unfold oLenS at h ⊢
    split at h <;> simp at h ⊢
    exact ⟨h.2.symm, h.1⟩
  case min l =>
    simp only [evOp] at h ⊢; unfold oMin at h ⊢
    split at h <;> simp at h ⊢
    exact ⟨h.2.symm, h.1⟩
  case max l =>
    simp only [evOp] at h ⊢; unfold oMax at h ⊢
    split at h <;> simp at h ⊢
    exact ⟨h.2.symm, h.1⟩
  case mkfn f l => simp [evOp] at h ⊢; exact ⟨h.2.symm, h.1⟩
theorem read_op {op : AOp} {hp hp1 : List Ob} {v : AV} (hk : opKind op = 1) (h : evOp Γ env hp op = some (v, hp1)) : hp1 = hp := by
  cases op <;> simp [opKind] at hk
  case build z ps => split at hk <;> simp at hk
  case load m x =>
    cases m
    · simp only [evOp] at h; unfold put1 at h; split at h <;> simp at h; exact h.2.symm
    · simp only [evOp] at h; unfold putL at h; split at h <;> simp at h; exact h.2.symm
  case b2s x => simp only [evOp] at h; unfold oB2s at h; split at h <;> simp at h; exact h.2.symm
  case cutR n x lo hi =>
    simp only [evOp] at h
    split at h
    · unfold oCutR at h
      split at h
      · unfold cutR2 at h
        split at h
        · split at h
          · unfold put1 at h; split at h <;> simp at h; exact h.2.symm
          · simp at h
        · simp at h
      · simp at h
    · simp at h
  case iadrR n x i =>
    simp only [evOp] at h
    split at h
    · unfold oIadrR at h
      split at h
      · split at h
        · unfold put1 at h; split at h <;> simp at h; exact h.2.symm
        · simp at h
      · simp at h
    · simp at h
  case len x => simp only [evOp] at h; unfold oLen at h; split at h <;> simp at h; exact h.2.symm
/-! ### the same of one step -/
theorem step_congr {ai : AI} (h : ∀ t ∈ aiT ai, getT t env = getT t env') (hp : List Ob) : stepI Γ env hp ai = stepI Γ env' hp ai := by
  obtain ⟨dst, g, op⟩ := ai
  cases g with
  | none => exact evOp_congr h hp
  | some g =>
    obtain ⟨t, b⟩ := g
    simp only [aiT, List.mem_cons] at h
    simp only [stepI]
    rw [h t (.inl rfl), evOp_congr (fun t ht => h t (.inr ht)) hp]
theorem pure_step {ai : AI} {hp hp1 : List Ob} {v : AV} (hk : opKind ai.op = 0) (h : stepI Γ env hp ai = some (v, hp1)) : hp1 = hp ∧ ∀ hp2, stepI Γ env hp2 ai = some (v, hp2) := by
  obtain ⟨dst, g, op⟩ := ai
  cases g with
  | none => exact pure_op hk h
  | some g =>
    obtain ⟨t, b⟩ := g
    simp only [stepI] at h ⊢
    unfold stepG at h ⊢
    split at h
    · split at h
      · rename_i hc
        obtain ⟨h1, h2⟩ := pure_op hk h
        exact ⟨h1, fun hp2 => by simp only [if_pos hc]; exact h2 hp2⟩
      · rename_i hc
        simp at h
        refine ⟨h.2.symm, fun hp2 => ?_⟩
        simp only [if_neg hc]; rw [h.1]
    · simp at h
      exact ⟨h.2.symm, fun hp2 => by rw [h.1]⟩
    · simp at h
theorem quiet_step {ai : AI} {hp hp1 : List Ob} {v : AV} (hk : opKind ai.op ≠ 2) (h : stepI Γ env hp ai = some (v, hp1)) : hp1 = hp := by
  have h3 : opKind ai.op = 0 ∨ opKind ai.op = 1 := by
    have : opKind ai.op ≤ 2 := by
      unfold opKind; split <;> first | omega | skip
      all_goals (split <;> omega)
    omega
  rcases h3 with h3 | h3
  · exact (pure_step h3 h).1
  · obtain ⟨dst, g, op⟩ := ai
    cases g with
    | none => exact read_op h3 h
    | some g =>
      obtain ⟨t, b⟩ := g
      simp only [stepI] at h
      unfold stepG at h
      split at h
      · split at h
        · exact read_op h3 h
        · simp at h; exact h.2.symm
      · simp at h; exact h.2.symm
      · simp at h
end
end Go.X
