import Derived.Test.YthcbhmgjkecppaaAy
set_option linter.unusedVariables false
set_option linter.unusedSimpArgs false
namespace Go.X
/-! ### regions in which new rows come in an order that nobody knows -/
section
variable {Γ : Nat → Callee} {C : Cx} {n n' : Nat} {ρ ρ' : Nat → RV} {s : Nat}
theorem killAll_at {k : Nat} : ∀ {S : List Nat} (hp : List Ob), (killAll hp S)[k]? = if k ∈ S ∧ k < hp.length then some .dead else hp[k]?
  | [], hp => by simp [killAll]
  | x :: S, hp => by
    simp only [killAll]
    rw [killAll_at (S := S)]
    by_cases e : k = x
    · subst e
      by_cases hk : k < hp.length
      · simp [hk]
      · simp [hk, List.getElem?_set]
    · simp [e, List.getElem?_set_ne (Ne.symm e)]
/-- Which rows are not there yet. -/
def pend (fs : List (Nat × Nat × RC)) (listed : Array Bool) : List Nat := (fs.filter fun f => !listed.getD f.1 false).map (·.2.1)
theorem mem_pend {fs : List (Nat × Nat × RC)} {listed : Array Bool} {s : Nat} : s ∈ pend fs listed ↔ ∃ f ∈ fs, f.2.1 = s ∧ ¬ doneD listed f.1 := by
  simp only [pend, List.mem_map, List.mem_filter, Bool.not_eq_true', doneD, Bool.not_eq_true]
  constructor
  · rintro ⟨f, ⟨h1, h2⟩, h3⟩; exact ⟨f, h1, h3, h2⟩
  · rintro ⟨f, h1, h3, h2⟩; exact ⟨f, ⟨h1, h2⟩, h3⟩
theorem F_op {op : AOp} {env : Env} {c : RC} (hf : isF op = true) (h : rowOf (evOp Γ env [] op) = some c) (M : List Ob) : evOp Γ env M op = some (.one (.row M.length), M ++ [.rows none c]) := by
  have put : ∀ {r : Option RC}, rowOf (putR [] r) = some c → putR M r = some (.one (.row M.length), M ++ [.rows none c]) := by
    intro r h
    cases r with
    | none => simp [putR, rowOf] at h
    | some d =>
      simp [putR, newRow, rowOf] at h
      subst h; rfl
  cases op
  case newNil c0 => simp only [evOp] at h ⊢; exact put (r := some c0) h
  case bslice c0 z l ps => simp only [evOp] at h ⊢; exact put h
  case mks c0 z b l x =>
    simp only [evOp] at h ⊢
    unfold oMks at h ⊢
    split at h
    · split at h
      · rename_i hc; rw [if_pos hc]; exact put h
      · simp [rowOf] at h
    · simp [rowOf] at h
  case append c0 b x y =>
    obtain ⟨d0, rfl⟩ : ∃ d0, x = .const (.one (.nils d0)) := by
      cases x with
      | tmp t => simp [isF] at hf
      | const v =>
        cases v with
        | one v => cases v <;> first | exact ⟨_, rfl⟩ | simp [isF] at hf
        | agg l => simp [isF] at hf
        | tup l => simp [isF] at hf
    have e0 : getS env (.const (.one (.nils d0))) = .nils d0 := rfl
    simp only [evOp, Go.X.append, e0] at h ⊢
    generalize getS env y = yv at h ⊢
    have src : ∀ d, source [] c0 yv = some d → source M c0 yv = some d := by
      intro d hd
      cases yv <;> simp [source, content, rowAt, cutAt] at hd ⊢ <;> exact hd
    cases hy : source [] c0 yv with
    | none => rw [hy] at h; simp [app1, rowOf] at h
    | some d =>
      rw [hy] at h
      rw [src d hy]
      simp only [app1, app2] at h ⊢
      split at h
      · rename_i hc; rw [if_pos hc]; exact put h
      · simp [rowOf] at h
  all_goals simp [isF] at hf
theorem noKey_of {S : List Nat} {env : Env} {a : Act} {x : AO} (hS : ∀ k ∈ S, Poison ρ k) (he : EnvR C n ρ env a) (h : noKey x = true) : ¬ keyIn S (getS env x) := by
  cases x with
  | const v =>
    simp only [noKey] at h
    simp only [getS, getO]
    generalize v.sv = w at h
    cases w <;> simp [keyIn] at h ⊢
  | tmp t =>
    simp only [getS, getO]
    have h1 := he t
    generalize getT t env = v at h1
    generalize a.tmps.getD t undef = u at h1
    cases h1 with
    | one v u h => exact VR.not_in hS h
    | agg l vs h => simp [AV.sv, keyIn]
    | tup l vs h => simp [AV.sv, keyIn]
theorem freeK_of {S : List Nat} {env : Env} {a : Act} {op : AOp} (hS : ∀ k ∈ S, Poison ρ k) (he : EnvR C n ρ env a) (h : freeK op = true) : freeOp env S op := by
  cases op <;> simp only [freeK, Bool.and_eq_true, decide_eq_true_eq] at h <;> simp only [freeOp] <;> first | exact h | exact noKey_of hS he h | exact ⟨noKey_of hS he h.1, noKey_of hS he h.2⟩
theorem step_kill {S : List Nat} {env : Env} {a : Act} {ai : AI} {hp hp1 : List Ob} {v : AV} (hS : ∀ k ∈ S, Poison ρ k) (hl : ∀ k ∈ S, k < hp.length) (he : EnvR C n ρ env a) (hf : freeK ai.op = true) (h : stepI Γ env hp ai = some (v, hp1)) : stepI Γ env (killAll hp S) ai = some (v, killAll hp1 S) := by
  obtain ⟨dst, g, op⟩ := ai
  cases g with
  | none => exact op_kill hl (freeK_of hS he hf) h
  | some g =>
    obtain ⟨t, b⟩ := g
    simp only [stepI] at h ⊢
    unfold stepG at h ⊢
    split at h
    · split at h
      · rename_i hc; simp only [if_pos hc]; exact op_kill hl (freeK_of hS he hf) h
      · rename_i hc
        simp at h; obtain ⟨rfl, rfl⟩ := h
        simp only [if_neg hc]
    · simp at h; obtain ⟨rfl, rfl⟩ := h; rfl
    · simp at h
/-- A state with a new row behind it, the row moved to its slot. -/
theorem StR.slot {env : Env} {M : List Ob} {a : Act} {w w' : World} {c : RC} {u : Value} {dst : Option Nat} (h : StR C ρ n env M a w) (hs : Poison ρ s) (hl : s < M.length) (E : Ext M.length ρ ρ')
    (hv : AVR C (M ++ [Ob.rows none c]).length ρ' (.one (.row M.length)) u) (hH : HR C ρ' (M ++ [.rows none c]) w') (hF : FR C w') (hd : cDst n dst = true) :
    StR C (fillR ρ' s (ρ' M.length)) n (putE env dst (.one (.row s))) (M.set s (.rows none c)) (a.put dst u) w' := by
  have hp' : Poison ρ' s := by unfold Poison at hs ⊢; rw [E s hl]; exact hs
  have e1 : EnvR C M.length (fillR ρ' s (ρ' M.length)) env a := fun t => AVR.fill hp' (fun k hk => fillR_ne hk) ((h.env.ext (Nat.le_refl _) E) t)
  refine ⟨?_, ?_, hF, by rw [put_size]; exact h.size, by rw [put_defers]; exact h.defers⟩
  · rw [List.length_set]
    refine e1.put ?_ dst (fun d e => ?_)
    · cases hv with
      | one _ _ hv =>
        cases hv with
        | row _ a0 m cap hk hh =>
          exact .one _ _ (.row s a0 m cap hl (by simp [fillR, hh]))
    · subst e
      simp [cDst] at hd
      exact Nat.lt_of_lt_of_le hd h.size
  · have := hH.slot (L := M.length) (s := s) (by simp) hl
    rw [slotHp_new h.heap hs] at this
    exact this
structure DInvF (C : Cx) (n N : Nat) (ops : Array Oper) (ais : List AI) (ld : List Bool) (fs : List (Nat × Nat × RC)) (E0 : Env) (H : Nat → List Ob) (V : Nat → AV) (listed : Array Bool) (a : Act) (w : World) (k : Nat) (ρ : Nat → RV) (Ed : Env) : Prop where
  size : listed.size = N
  le : k ≤ N
  closed : ∀ (i : Nat) (o : Oper), ops[i]? = some o → doneD listed i → ∀ e ∈ dirs o, doneD listed e
  loud : ∀ j, j < N → ld.getD j false = true → (doneD listed j ↔ j < k)
  val : ∀ j d, doneD listed j → dstAt ais j = some d → getT d Ed = V j
  old : ∀ t, (∀ j, doneD listed j → dstAt ais j ≠ some t) → getT t Ed = getT t E0
  st : StR C ρ n Ed (killAll (H k) (pend fs listed)) a w
  poi : ∀ s ∈ pend fs listed, Poison ρ s
  slots : ∀ f ∈ fs, f.2.1 < (H k).length
/-- What is asked of the i-th operation: it is served, and may be done while rows lack; or it is a new row. -/
def Kind (Γ : Nat → Callee) (P : Program) (n N : Nat) (ops : Array Oper) (ais : List AI) (ld : List Bool) (anc : List (List Nat)) (hs : List (List Ob)) (fs : List (Nat × Nat × RC)) (EN : Env) (i : Nat) (o : Oper) : Prop :=
  ∃ ai, ais[i]? = some ai ∧ ∃ ai0, cInstr P n ops o = some ai0 ∧ ai0.dst = ai.dst ∧
    (((∀ f ∈ fs, f.1 ≠ i) ∧ (freeK ai.op = true ∨ ∀ f ∈ fs, f.1 ∈ anc.getD i []) ∧ ∀ (env : Env) (hp hp1 : List Ob) (v : AV), stepI Γ env hp ai = some (v, hp1) → stepI Γ env hp ai0 = some (v, hp1)) ∨
     ∃ s c, (i, s, c) ∈ fs ∧ ai.op = .mv (.const (.one (.row s))) ∧ ai.guard = none ∧ ai0.guard = none ∧ (∀ Ed : Env, (∀ t ∈ opT ai0.op, getT t Ed = getT t EN) → ∀ M, evOp Γ Ed M ai0.op = some (.one (.row M.length), M ++ [.rows none c])) ∧
      (∀ t ∈ opT ai0.op, ∀ j, j < N → dstAt ais j = some t → j < i ∧ j ∈ anc.getD i []) ∧ ∀ k, k ≤ N → offD N ld anc i k = true ∨ (hs.getD (rank ld k) [])[s]? = some (Ob.rows none c))
theorem draw_anyF {N : Nat} {ops : Array Oper} {ais : List AI} {ld : List Bool} {anc : List (List Nat)} {ck : List (Nat × List Nat)} {fs : List (Nat × Nat × RC)} {E : Nat → Env} {H : Nat → List Ob} {V : Nat → AV} {hs : List (List Ob)} {rts : List SV}
    (hΓ : ∀ f, Sound C.P f (Γ f)) (hN : ops.size = N) (hi : ∀ (i : Nat) (o : Oper), ops[i]? = some o → Kind Γ C.P n N ops ais ld anc hs fs (E N) i o) (fsN0 : ∀ f ∈ fs, f.1 < N) (huf : ∀ f ∈ fs, ∀ g ∈ fs, f.1 = g.1 ∨ f.2.1 = g.2.1 → f = g) (S : Static N ops.toList ais ld anc ck)
    (hstep : ∀ (i : Nat) (ai : AI), ais[i]? = some ai → stepI Γ (E i) (H i) ai = some (V i, H (i + 1)) ∧ E (i + 1) = putE (E i) ai.dst (V i))
    (hrank : ∀ k, k ≤ N → hs.getD (rank ld k) [] = H k)
    (hck : ∀ c ∈ ck, ∀ ai, ais[c.1]? = some ai → ∃ d, ai.dst = some d ∧ ∀ r ∈ c.2, ∃ hp', stepI Γ (E N) (hs.getD r []) ai = some (getT d (E N), hp')) :
    ∀ (fuel : Nat) (listed : Array Bool) (a : Act) (w : World) (k : Nat) (ρ : Nat → RV) (Ed : Env), ((List.range N).filter fun j => !listed.getD j false).length ≤ fuel → DInvF C n N ops ais ld fs (E 0) H V listed a w k ρ Ed →
      wpAny C.P .any ops (QR C n .norm ⟨E N, rts, H N⟩) fuel listed a w := by
  -- ahead: what the order cannot touch
  have un : ∀ i, i < N → ∃ ai, ais[i]? = some ai := fun i h => ⟨_, List.getElem?_eq_getElem (by rw [S.len]; exact h)⟩
  have uo : ∀ i, i < N → ∃ o, ops[i]? = some o := fun i h => ⟨_, Array.getElem?_eq_getElem (by omega)⟩
  have dlt : ∀ j d, dstAt ais j = some d → j < N := by
    intro j d h
    unfold dstAt at h
    obtain ⟨ai, h, _⟩ := bind_some h
    have := (List.getElem?_eq_some_iff.1 h).1
    rw [S.len] at this; exact this
  have uniq : ∀ i j d, dstAt ais i = some d → dstAt ais j = some d → i = j := by
    intro i j d h1 h2
    rcases Nat.lt_trichotomy i j with h | h | h
    · exact absurd h1 (S.dst j i d (dlt _ _ h2) h h2)
    · exact h
    · exact absurd h2 (S.dst i j d (dlt _ _ h1) h h1)
  have dstE : ∀ i ai, ais[i]? = some ai → dstAt ais i = ai.dst := fun i ai h => by simp [dstAt, h]
  have look : ∀ i, i ≤ N → ∀ t, ((∀ j, j < i → dstAt ais j ≠ some t) → getT t (E i) = getT t (E 0)) ∧ (∀ j, j < i → dstAt ais j = some t → getT t (E i) = V j) := by
    intro i
    induction i with
    | zero => intro _ t; exact ⟨fun _ => rfl, fun j hj => by omega⟩
    | succ i ih =>
      intro hle t
      obtain ⟨ai, hai⟩ := un i (by omega)
      rw [(hstep i ai hai).2]
      have hd := dstE i ai hai
      obtain ⟨h1, h2⟩ := ih (by omega) t
      refine ⟨fun h => ?_, fun j hj e => ?_⟩
      · cases e : ai.dst with
        | none => simp only [putE]; exact h1 fun j hj => h j (by omega)
        | some d =>
          simp only [putE, getT]
          rw [if_neg (by rintro rfl; exact h i (by omega) (by rw [hd, e]))]
          exact h1 fun j hj => h j (by omega)
      · by_cases hji : j = i
        · subst hji
          rw [hd] at e; rw [e]; simp [putE, getT]
        · cases e' : ai.dst with
          | none => simp only [putE]; exact h2 j (by omega) e
          | some d =>
            simp only [putE, getT]
            rw [if_neg (by rintro rfl; exact hji (uniq j i t e (by rw [hd, e'])))]
            exact h2 j (by omega) e
  have lookN : ∀ i, i ≤ N → ∀ t, (∀ j, j < N → i ≤ j → dstAt ais j ≠ some t) → getT t (E N) = getT t (E i) := by
    intro i hi t h
    by_cases hex : ∃ j, j < N ∧ dstAt ais j = some t
    · obtain ⟨j, hj, e⟩ := hex
      have hji : j < i := Nat.lt_of_not_le fun h' => h j hj h' e
      rw [(look N (Nat.le_refl _) t).2 j hj e, (look i hi t).2 j hji e]
    · have h' : ∀ j, j < N → dstAt ais j ≠ some t := fun j hj e => hex ⟨j, hj, e⟩
      rw [(look N (Nat.le_refl _) t).1 h', (look i hi t).1 fun j hj => h' j (by omega)]
  have quiet : ∀ i k, k ≤ i → i ≤ N → (∀ j, k ≤ j → j < i → ld.getD j false = false) → H i = H k := by
    intro i k hki
    induction hki with
    | refl => intros; rfl
    | @step m hkm ih =>
      intro hN' hq
      obtain ⟨ai, hai⟩ := un m (by omega)
      have hl := hq m hkm (by omega)
      have hk2 : opKind ai.op ≠ 2 := fun e => by rw [(S.kind m ai hai).2 e] at hl; cases hl
      rw [quiet_step hk2 (hstep m ai hai).1]
      exact ih (by omega) fun j h1 h2 => hq j h1 (by omega)
  have anc_done : ∀ (listed : Array Bool), listed.size = N → (∀ (i : Nat) (o : Oper), ops[i]? = some o → doneD listed i → ∀ e ∈ dirs o, doneD listed e) → ∀ i, doneD listed i → ∀ j ∈ anc.getD i [], doneD listed j := by
    intro listed hsz hcl i
    induction i using Nat.strongRecOn with
    | _ i ih =>
      intro hd j hj
      have hiN : i < N := by
        rcases Nat.lt_or_ge i N with h | h
        · exact h
        · unfold doneD at hd; rw [Array.getD_eq_getD_getElem?, Array.getElem?_eq_none (by omega)] at hd; cases hd
      obtain ⟨o, ho⟩ := uo i hiN
      obtain ⟨h1, h2⟩ := S.edge i hiN o (by simpa using ho)
      rcases h2 j hj with h | ⟨e, he, h⟩
      · exact hcl i o ho hd j h
      · exact ih e (h1 e he) (hcl i o ho hd e he) j h
  have fsN : ∀ f ∈ fs, f.1 < N := fsN0
  -- when all is done
  have fin : ∀ (listed : Array Bool) (a : Act) (w : World) (k : Nat) (ρ : Nat → RV) (Ed : Env), DInvF C n N ops ais ld fs (E 0) H V listed a w k ρ Ed → (∀ j, j < N → doneD listed j) → QR C n .norm ⟨E N, rts, H N⟩ .normal a w := by
    intro listed a w k ρ Ed I hall
    have hH : H N = H k := quiet N k I.le (Nat.le_refl _) fun j h1 h2 => by
      cases hl : ld.getD j false
      · rfl
      · have := (I.loud j h2 hl).1 (hall j h2); omega
    have hst : StR C ρ n Ed (H k) a w := by
      have e : pend fs listed = [] := by
        cases hp : pend fs listed with
        | nil => rfl
        | cons s l =>
          exfalso
          obtain ⟨f, hf, _, h2⟩ := mem_pend.1 (show s ∈ pend fs listed by rw [hp]; simp)
          have hfN : f.1 < N := fsN f hf
          exact h2 (hall _ hfN)
      have := I.st
      rw [e] at this
      exact this
    refine ⟨rfl, ρ, ⟨fun t => ?_, by rw [hH]; exact hst.heap, hst.fr, hst.size, hst.defers⟩⟩
    have hT : getT t (E N) = getT t Ed := by
      by_cases hex : ∃ j, j < N ∧ dstAt ais j = some t
      · obtain ⟨j, hj, e⟩ := hex
        rw [(look N (Nat.le_refl _) t).2 j hj e, I.val j t (hall j hj) e]
      · rw [(look N (Nat.le_refl _) t).1 fun j hj e => hex ⟨j, hj, e⟩, I.old t fun j hd e => hex ⟨j, dlt j t e, e⟩]
    rw [hT, hH]
    exact hst.env t
  have rdy : ∀ (listed : Array Bool), listed.size = N → Region.ready .any ops listed = [] → ∀ j, j < N → doneD listed j := by
    intro listed hsz hr j
    induction j using Nat.strongRecOn with
    | _ j ih =>
      intro hj
      obtain ⟨o, ho⟩ := uo j hj
      cases hd : listed.getD j false with
      | true => exact hd
      | false =>
        exfalso
        have : j ∈ Region.ready .any ops listed := by
          rw [mem_ready]
          refine ⟨?_, o, ho, fun e he hb => ?_⟩
          · rw [Array.getD_eq_getD_getElem?, Array.getElem?_eq_getElem (by omega)] at hd ⊢; exact hd
          · have hlt := (S.edge j hj o (by simpa using ho)).1 e.on (mem_dirs.2 ⟨e, he, hb, rfl⟩)
            exact ih e.on hlt (by omega)
        rw [hr] at this; cases this
  intro fuel
  induction fuel with
  | zero =>
    intro listed a w k ρ Ed hf I
    have hall : ∀ j, j < N → doneD listed j := by
      intro j hj
      cases hd : listed.getD j false with
      | true => exact hd
      | false =>
        have : j ∈ (List.range N).filter fun j => !listed.getD j false := by simp only [List.mem_filter, List.mem_range, hd]; exact ⟨hj, rfl⟩
        have := List.length_pos_of_mem this
        omega
    refine ⟨?_, fin listed a w k ρ Ed I hall⟩
    cases hr : Region.ready .any ops listed with
    | nil => rfl
    | cons x xs =>
      exfalso
      have hx : x ∈ Region.ready .any ops listed := by rw [hr]; simp
      obtain ⟨h0, o, ho, _⟩ := mem_ready.1 hx
      have hxN : x < N := by have := (Array.getElem?_eq_some_iff.1 ho).1; omega
      have := hall x hxN
      unfold doneD at this
      rw [Array.getD_eq_getD_getElem?, Array.getElem?_eq_getElem (by rw [I.size]; exact hxN)] at h0 this
      simp at h0 this; rw [h0] at this; cases this
  | succ fuel ihf =>
    intro listed a w k ρ Ed hf I
    refine ⟨fun hr => fin listed a w k ρ Ed I (rdy listed I.size hr), fun i hir => ?_⟩
    obtain ⟨h0, o, ho, hedges⟩ := mem_ready.1 hir
    have hiN : i < N := by have := (Array.getElem?_eq_some_iff.1 ho).1; omega
    have hnd : ¬ doneD listed i := by
      unfold doneD
      rw [Array.getD_eq_getD_getElem?, Array.getElem?_eq_getElem (by rw [I.size]; exact hiN)] at h0 ⊢
      simp at h0 ⊢; exact h0
    obtain ⟨ai, hai, ai0, hci, hd0, hkd⟩ := hi i o ho
    have hdirs : ∀ e ∈ dirs o, doneD listed e := fun e he => by
      obtain ⟨x, h1, h2, rfl⟩ := mem_dirs.1 he
      exact hedges x h1 h2
    have hanc : ∀ j ∈ anc.getD i [], doneD listed j := fun j hj => by
      rcases (S.edge i hiN o (by simpa using ho)).2 j hj with h | ⟨e, he, h⟩
      · exact hdirs j h
      · exact anc_done listed I.size I.closed e (hdirs e he) j h
    have hback : ∀ j, doneD listed j → i ∈ anc.getD j [] → False := fun j hd hj => hnd (anc_done listed I.size I.closed j hd i hj)
    -- what the operation looks at is what it was in the text's order
    have look_i : ∀ t ∈ aiT ai, getT t Ed = getT t (E i) := by
      intro t ht
      by_cases hex : ∃ j, j < N ∧ dstAt ais j = some t
      · obtain ⟨j, hj, e⟩ := hex
        have old : ¬ doneD listed j → i ≤ j → getT t Ed = getT t (E i) := fun hd hle => by
          rw [I.old t fun j' hd' e' => hd (uniq j' j t e' e ▸ hd'), (look i (by omega) t).1 fun j' hj' e' => by have := uniq j' j t e' e; omega]
        rcases S.tmp i ai hai t ht j hj e with h | ⟨h1, h2⟩ | ⟨h1, h2⟩
        · exact old (h ▸ hnd) (by omega)
        · rw [I.val j t (hanc j h2) e, (look i (by omega) t).2 j h1 e]
        · exact old (fun hd => hback j hd h2) (by omega)
      · rw [I.old t fun j hd e => hex ⟨j, dlt j t e, e⟩, (look i (by omega) t).1 fun j hj e => hex ⟨j, by omega, e⟩]
    obtain ⟨hs1, hs2⟩ := hstep i ai hai
    -- what it comes to
    have run : ∃ k', k' ≤ N ∧ stepI Γ Ed (H k) ai = some (V i, H k') ∧ (∀ j, j < N → ld.getD j false = true → (doneD listed j ∨ j = i ↔ j < k')) ∧ (opKind ai.op ≠ 2 → k' = k) := by
      have hcong : ∀ h, stepI Γ Ed h ai = stepI Γ (E i) h ai := fun h => step_congr look_i h
      have hkind := S.kind i ai hai
      by_cases h2 : opKind ai.op = 2
      · have hl := hkind.2 h2
        have hki : k ≤ i := Nat.le_of_not_lt fun h => hnd ((I.loud i hiN hl).2 h)
        have hH : H i = H k := quiet i k hki (by omega) fun j h1 h3 => by
          cases e : ld.getD j false
          · rfl
          · have := (I.loud j (by omega) e).1 (hanc j (S.loud i j hiN h3 hl e)); omega
        refine ⟨i + 1, hiN, by rw [hcong, ← hH]; exact hs1, fun j hj e => ⟨?_, fun hj' => ?_⟩, fun h => absurd h2 h⟩
        · rintro (h | h)
          · have := (I.loud j hj e).1 h; omega
          · omega
        · by_cases hji : j = i
          · exact .inr hji
          · exact .inl (hanc j (S.loud i j hiN (by omega) hl e))
      · have hl : ld.getD i false = false := by
          cases e : ld.getD i false
          · rfl
          · exact absurd (hkind.1 e) h2
        refine ⟨k, I.le, ?_, fun j hj e => ?_, fun _ => rfl⟩
        · rw [hcong]
          by_cases h3 : opKind ai.op = 0
          · exact (pure_step h3 hs1).2 _
          · have h1 : opKind ai.op = 1 := by
              have : opKind ai.op ≤ 2 := by
                unfold opKind; split <;> first | omega | skip
                all_goals (split <;> omega)
              omega
            obtain ⟨hr, hr2⟩ := S.read i ai hai h1
            rcases hr k I.le with h | h | ⟨c, hc, hci', hck'⟩
            · exfalso
              simp only [offD, Bool.or_eq_true, List.any_eq_true, Bool.and_eq_true, decide_eq_true_eq, List.mem_range] at h
              rcases h with ⟨j, hj, hlj, hkj⟩ | ⟨j, hj, ⟨hlj, hkj⟩, hij⟩
              · have hjd := hanc j hj
                have hjN : j < N := by
                  rcases Nat.lt_or_ge j N with h | h
                  · exact h
                  · unfold doneD at hjd; rw [Array.getD_eq_getD_getElem?, Array.getElem?_eq_none (by rw [I.size]; omega)] at hjd; cases hjd
                have := (I.loud j hjN hlj).1 hjd
                omega
              · exact hback j ((I.loud j hj hlj).2 hkj) (by simpa using hij)
            · have hH : H k = H i := by rw [← hrank k I.le, ← hrank i (by omega), h]
              have hq : H (i + 1) = H i := quiet_step h2 hs1
              rw [hH]; rw [hq] at hs1; exact hs1
            · obtain ⟨d, hd, hrun⟩ := hck c hc ai (by rw [hci']; exact hai)
              obtain ⟨hp4, h4⟩ := hrun _ hck'
              rw [hrank k I.le] at h4
              obtain rfl := quiet_step h2 h4
              rw [step_congr (env' := E i) fun t ht => lookN i (by omega) t fun j hj hij => hr2 ⟨c, hc, hci'⟩ t ht j hj hij] at h4
              rw [h4, (look N (Nat.le_refl _) d).2 i hiN (by rw [dstE i ai hai, hd])]
        · constructor
          · rintro (h | h)
            · exact (I.loud j hj e).1 h
            · subst h; rw [hl] at e; cases e
          · intro h; exact .inl ((I.loud j hj e).2 h)
    obtain ⟨k', hk', hrun, hloud, hkk⟩ := run
    obtain ⟨hdc, hdst0, _, _⟩ := instr_inv hci
    have hdst : ai.dst = o.dst := by rw [← hd0]; exact hdst0
    have hsz : i < listed.size := by rw [I.size]; exact hiN
    have cont : ∀ (ρ' : Nat → RV) (u : Value) (w' : World), StR C ρ' n (putE Ed o.dst (V i)) (killAll (H k') (pend fs (listed.setIfInBounds i true))) (a.put o.dst u) w' → (∀ s ∈ pend fs (listed.setIfInBounds i true), Poison ρ' s) → (H k).length ≤ (H k').length → wpAny C.P .any ops (QR C n .norm ⟨E N, rts, H N⟩) fuel (listed.setIfInBounds i true) (a.put o.dst u) w' := fun ρ' u w' hst' hpo' hlen' => by
      refine ihf _ _ _ k' ρ' (putE Ed o.dst (V i)) ?_ ⟨by simp [I.size], hk', fun j o' ho' hd e he => ?_, fun j hj e => ?_, fun j d hd e => ?_, fun t ht => ?_, hst', hpo', fun f hf => Nat.lt_of_lt_of_le (I.slots f hf) hlen'⟩
      · have : ((List.range N).filter fun j => !(listed.setIfInBounds i true).getD j false).length < ((List.range N).filter fun j => !listed.getD j false).length := by
          refine filter_lt (i := i) (fun x hx => ?_) (List.mem_range.2 hiN) ?_ ?_
          · simp only [Bool.not_eq_true'] at hx ⊢
            cases e : listed.getD x false
            · rfl
            · rw [getD_set_true e] at hx; cases hx
          · simp only [Bool.not_eq_true']
            cases e : listed.getD i false
            · rfl
            · exact absurd e hnd
          · simp only [Bool.not_eq_false']
            exact (done_set hsz).2 (.inr rfl)
        omega
      · rw [done_set hsz] at hd ⊢
        rcases hd with hd | rfl
        · exact .inl (I.closed j o' ho' hd e he)
        · rw [ho] at ho'; simp at ho'; subst ho'
          exact .inl (hdirs e he)
      · rw [done_set hsz]; exact hloud j hj e
      · rw [done_set hsz] at hd
        have hdi := dstE i ai hai
        by_cases hji : j = i
        · subst hji
          rw [hdi, hdst] at e
          rw [e]; simp [putE, getT]
        · have hd' : doneD listed j := hd.resolve_right hji
          cases e' : o.dst with
          | none => simp only [putE]; exact I.val j d hd' e
          | some d' =>
            simp only [putE, getT]
            rw [if_neg (by rintro rfl; exact hji (uniq j i d e (by rw [hdi, hdst, e'])))]
            exact I.val j d hd' e
      · have hdi := dstE i ai hai
        cases e' : o.dst with
        | none => simp only [putE]; exact I.old t fun j hd => ht j ((done_set hsz).2 (.inl hd))
        | some d' =>
          simp only [putE, getT]
          rw [if_neg (by rintro rfl; exact ht i ((done_set hsz).2 (.inr rfl)) (by rw [hdi, hdst, e']))]
          exact I.old t fun j hd => ht j ((done_set hsz).2 (.inl hd))
    have pend_sub : ∀ s, s ∈ pend fs (listed.setIfInBounds i true) ↔ ∃ f ∈ fs, f.2.1 = s ∧ ¬ doneD listed f.1 ∧ f.1 ≠ i := fun s => by
      rw [mem_pend]
      constructor
      · rintro ⟨f, h1, h2, h3⟩
        rw [done_set hsz] at h3
        exact ⟨f, h1, h2, fun h => h3 (.inl h), fun h => h3 (.inr h)⟩
      · rintro ⟨f, h1, h2, h3, h4⟩
        refine ⟨f, h1, h2, ?_⟩
        rw [done_set hsz]
        rintro (h | h)
        · exact h3 h
        · exact h4 h
    have plt : ∀ s ∈ pend fs listed, s < (H k).length := fun s hs => by
      obtain ⟨f, hf, rfl, _⟩ := mem_pend.1 hs
      exact I.slots f hf
    have key : if Region.wanted o (yielded ops a.tmps) = true then o.wp C.P a w (wpAny C.P .any ops (QR C n .norm ⟨E N, rts, H N⟩) fuel (listed.setIfInBounds i true)) (QR C n .norm ⟨E N, rts, H N⟩) else wpAny C.P .any ops (QR C n .norm ⟨E N, rts, H N⟩) fuel (listed.setIfInBounds i true) (a.put o.dst undef) w := by
      rcases hkd with ⟨hnf, hfree, href⟩ | ⟨s, c, hmem, hop, hgd, hgd0, hev, htmp, hslot⟩
      · have epend : pend fs (listed.setIfInBounds i true) = pend fs listed := by
          unfold pend
          congr 1
          refine List.filter_congr fun f hf => ?_
          congr 1
          exact getD_set_ne false (Ne.symm (hnf f hf))
        rw [epend] at cont
        have hmask : stepI Γ Ed (killAll (H k) (pend fs listed)) ai = some (V i, killAll (H k') (pend fs listed)) := by
          rcases hfree with hf | hf
          · exact step_kill I.poi plt I.st.env hf hrun
          · have e : pend fs listed = [] := by
              cases hp : pend fs listed with
              | nil => rfl
              | cons x l =>
                exfalso
                obtain ⟨f, hff, _, h2⟩ := mem_pend.1 (show x ∈ pend fs listed by rw [hp]; simp)
                exact h2 (hanc _ (hf f hff))
            rw [e]; exact hrun
        refine step_ok hΓ hci I.st (href _ _ _ _ hmask) (fun ρ' u w' h1 h2 h3 h4 h5 => ?_)
        refine cont ρ' u w' (I.st.next h1 h2 h3 h4 h5 hdc) (fun s hs => ?_) (by simpa [killAll_length] using h1)
        have := I.poi s hs
        unfold Poison at this ⊢
        rw [h2 s (by rw [killAll_length]; exact plt s hs)]; exact this
      · have hs : s ∈ pend fs listed := mem_pend.2 ⟨_, hmem, rfl, hnd⟩
        have hsl := plt s hs
        have hVi : V i = .one (.row s) := by
          obtain ⟨dst, g, op⟩ := ai
          simp only at hop hgd
          subst hop hgd
          simp only [stepI, evOp, getO, Option.some.injEq, Prod.mk.injEq] at hs1
          exact hs1.1.symm
        obtain rfl := hkk (by rw [hop]; simp [opKind])
        have hstep0 : stepI Γ Ed (killAll (H k') (pend fs listed)) ai0 = some (.one (.row (killAll (H k') (pend fs listed)).length), killAll (H k') (pend fs listed) ++ [.rows none c]) := by
          obtain ⟨dst0, g0, op0⟩ := ai0
          simp only at hgd0
          subst hgd0
          simp only [stepI]
          refine hev Ed (fun t ht => ?_) _
          by_cases hex : ∃ j, j < N ∧ dstAt ais j = some t
          · obtain ⟨j, hj, e⟩ := hex
            rw [I.val j t (hanc j (htmp t ht j hj e).2) e, (look N (Nat.le_refl _) t).2 j hj e]
          · rw [I.old t fun j hd e => hex ⟨j, dlt j t e, e⟩, (look N (Nat.le_refl _) t).1 fun j hj e => hex ⟨j, by omega, e⟩]
        have hHs : (H k')[s]? = some (Ob.rows none c) := by
          rcases hslot k' I.le with h | h
          · exfalso
            simp only [offD, Bool.or_eq_true, List.any_eq_true, Bool.and_eq_true, decide_eq_true_eq, List.mem_range] at h
            rcases h with ⟨j, hj, hlj, hkj⟩ | ⟨j, hj, ⟨hlj, hkj⟩, hij⟩
            · have hjd := hanc j hj
              have hjN : j < N := by
                rcases Nat.lt_or_ge j N with h | h
                · exact h
                · unfold doneD at hjd; rw [Array.getD_eq_getD_getElem?, Array.getElem?_eq_none (by rw [I.size]; omega)] at hjd; cases hjd
              have := (I.loud j hjN hlj).1 hjd
              omega
            · exact hback j ((I.loud j hj hlj).2 hkj) (by simpa using hij)
          · rw [hrank k' I.le] at h; exact h
        refine step_ok hΓ hci I.st hstep0 (fun ρ' u w' h1 h2 h3 h4 h5 => ?_)
        have hsm : s < (killAll (H k') (pend fs listed)).length := by rw [killAll_length]; exact hsl
        have hpend : ∀ x, x ∈ pend fs (listed.setIfInBounds i true) ↔ x ∈ pend fs listed ∧ x ≠ s := fun x => by
          rw [pend_sub, mem_pend]
          constructor
          · rintro ⟨f, f1, rfl, f3, f4⟩
            refine ⟨⟨f, f1, rfl, f3⟩, fun e => f4 ?_⟩
            rw [huf f f1 _ hmem (.inr e)]
          · rintro ⟨⟨f, f1, rfl, f3⟩, hne⟩
            refine ⟨f, f1, rfl, f3, fun e => hne ?_⟩
            rw [huf f f1 _ hmem (.inl e)]
        have hset : (killAll (H k') (pend fs listed)).set s (.rows none c) = killAll (H k') (pend fs (listed.setIfInBounds i true)) := by
          apply List.ext_getElem?
          intro x
          rw [List.getElem?_set]
          by_cases e : s = x
          · subst e
            have : ¬ s ∈ pend fs (listed.setIfInBounds i true) := fun h => ((hpend s).1 h).2 rfl
            rw [if_pos rfl, if_pos hsm, killAll_at, if_neg (fun h => this h.1), hHs]
          · rw [if_neg e, killAll_at, killAll_at]
            have : x ∈ pend fs (listed.setIfInBounds i true) ↔ x ∈ pend fs listed := by
              rw [hpend]; exact ⟨fun h => h.1, fun h => ⟨h, Ne.symm e⟩⟩
            simp [this]
        have hst' := StR.slot (s := s) I.st (I.poi s hs) hsm h2 h3 h4 h5 hdc
        rw [hset] at hst'
        refine cont _ u w' (by rw [hVi]; exact hst') (fun x hx => ?_) (Nat.le_refl _)
        obtain ⟨hx1, hx2⟩ := (hpend x).1 hx
        have := I.poi x hx1
        unfold Poison at this ⊢
        rw [fillR_ne hx2, h2 x (by rw [killAll_length]; exact plt x hx1)]; exact this
    unfold wpOp
    rw [ho]
    simp only
    split
    · rename_i hw; rw [if_pos hw] at key; exact .inl key
    · rename_i hw; rw [if_neg hw] at key; exact key
theorem StR.deads {env : Env} {hp : List Ob} {a : Act} {w : World} (m : Nat) (h : StR C ρ n env hp a w) : StR C (fun k => if k < hp.length then ρ k else ⟨.bool false, 0⟩) n env (hp ++ List.replicate m .dead) a w := by
  have E : Ext hp.length ρ (fun k => if k < hp.length then ρ k else ⟨.bool false, 0⟩) := fun k hk => by simp [hk]
  have key : ∀ k o, (hp ++ List.replicate m Ob.dead)[k]? = some o → o ≠ .dead → k < hp.length ∧ hp[k]? = some o := by
    intro k o ho hd
    rcases Nat.lt_or_ge k hp.length with hk | hk
    · rw [List.getElem?_append_left hk] at ho; exact ⟨hk, ho⟩
    · rw [List.getElem?_append_right hk, List.getElem?_replicate] at ho
      split at ho
      · simp at ho; exact absurd ho.symm hd
      · cases ho
  refine ⟨by rw [List.length_append]; exact h.env.ext (Nat.le_add_right _ _) E, ⟨fun k o ho => ?_, fun j k b hjk hj hk hb => ?_⟩, h.fr, h.size, h.defers⟩
  · by_cases hd : o = .dead
    · subst hd; trivial
    · obtain ⟨hk, ho'⟩ := key k o ho hd
      rw [List.length_append]
      exact (h.heap.ob k o ho').ext (Nat.le_add_right _ _) E hk
  · obtain ⟨oj, h1, h2⟩ := hj
    obtain ⟨ok, h3, h4⟩ := hk
    obtain ⟨j1, j2⟩ := key j oj h1 h2
    obtain ⟨k1, k2⟩ := key k ok h3 h4
    rw [if_pos j1] at hb
    rw [if_pos k1]
    exact h.heap.ne j k b hjk ⟨oj, j2, h2⟩ ⟨ok, k2, h4⟩ hb
theorem ckFs_get {l : List (AI × Bool × Option Nat)} {env : Env} {hs : List (List Ob)} : ∀ {cf : List (Nat × List Nat)} {cs : List RC} {s : Nat}, ckFs Γ l env hs s cs cf = true → cs.length = cf.length ∧ ∀ j i rs, cf[j]? = some (i, rs) → ∃ c, cs[j]? = some c ∧ ckF1 Γ env c l[i]? = true ∧ ∀ r ∈ rs, (hs.getD r [])[s + j]? = some (Ob.rows none c)
  | [], [], _, _ => ⟨rfl, by simp⟩
  | [], _ :: _, _, h => by simp [ckFs] at h
  | _ :: _, [], _, h => by simp [ckFs] at h
  | (i0, rs0) :: cf, c0 :: cs, s, h => by
    simp only [ckFs, Bool.and_eq_true] at h
    obtain ⟨h1, h2, h3⟩ := h
    obtain ⟨h4, h5⟩ := ckFs_get h3
    refine ⟨by simp [h4], fun j i rs hj => ?_⟩
    cases j with
    | zero =>
      simp at hj; obtain ⟨rfl, rfl⟩ := hj
      refine ⟨c0, rfl, h1, ?_⟩
      have : ∀ rs : List Nat, ckSl hs s c0 rs = true → ∀ r ∈ rs, (hs.getD r [])[s]? = some (.rows none c0) := by
        intro rs
        induction rs with
        | nil => simp
        | cons r rs ih =>
          intro h r' hr
          simp only [ckSl, Bool.and_eq_true] at h
          rcases List.mem_cons.1 hr with e | e
          · subst e
            have h1 := h.1
            unfold obIs at h1
            split at h1
            · rename_i d hd; rw [hd]; simp at h1; rw [h1]
            · cases h1
          · exact ih h.2 r' e
      simpa using this _ h2
    | succ j =>
      obtain ⟨c, e1, e2, e3⟩ := h5 j i rs (by simpa using hj)
      refine ⟨c, by simpa using e1, e2, fun r hr => ?_⟩
      have := e3 r hr
      rw [show s + (j + 1) = s + 1 + j by omega]; exact this
theorem rowsOf_get : ∀ {cs : List RC} (j : Nat), (rowsOf cs)[j]? = (cs[j]?).map (.rows none)
  | [], j => by simp [rowsOf]
  | c :: cs, 0 => by simp [rowsOf]
  | c :: cs, j + 1 => by simpa [rowsOf] using rowsOf_get (cs := cs) j
theorem rowsOf_length : ∀ cs : List RC, (rowsOf cs).length = cs.length
  | [] => rfl
  | c :: cs => by simp [rowsOf, rowsOf_length cs]
theorem Static.turn {N : Nat} {os : List Oper} {ais ais2 : List AI} {ld : List Bool} {anc : List (List Nat)} {ck : List (Nat × List Nat)} (S : Static N os ais ld anc ck) (hl : ais2.length = ais.length)
    (h : ∀ (i : Nat) (a : AI), ais2[i]? = some a → ∃ a1, ais[i]? = some a1 ∧ a1.dst = a.dst ∧ opKind a1.op = opKind a.op ∧ aiT a1 = aiT a) : Static N os ais2 ld anc ck := by
  have hd : ∀ i, dstAt ais2 i = dstAt ais i := by
    intro i
    unfold dstAt
    cases e : ais2[i]? with
    | none =>
      have : ais[i]? = none := by rw [List.getElem?_eq_none_iff] at e ⊢; omega
      rw [this]
    | some a =>
      obtain ⟨a1, h1, h2, _⟩ := h i a e
      rw [h1]; exact h2.symm
  refine ⟨by rw [hl]; exact S.len, S.llen, S.edge, fun i a hi => ?_, S.loud, fun i j d h1 h2 h3 => ?_, fun i a hi t ht j hj e => ?_, fun i a hi hk => ?_⟩
  · obtain ⟨a1, h1, h2, h3, h4⟩ := h i a hi
    rw [← h3]; exact S.kind i a1 h1
  · rw [hd] at h3 ⊢; exact S.dst i j d h1 h2 h3
  · obtain ⟨a1, h1, h2, h3, h4⟩ := h i a hi
    rw [hd] at e
    exact S.tmp i a1 h1 t (by rw [h4]; exact ht) j hj e
  · obtain ⟨a1, h1, h2, h3, h4⟩ := h i a hi
    obtain ⟨r1, r2⟩ := S.read i a1 h1 (by rw [h3]; exact hk)
    refine ⟨r1, fun hc t ht j hj hij => ?_⟩
    rw [hd]
    exact r2 hc t (by rw [h4]; exact ht) j hj hij
theorem drawG_ok {K : Nat} {id : Nat} {ops : Array Oper} {ais : List AI} {L : List (AI × Bool × Option Nat)} {anc : List (List Nat)} {ld : List Bool} {ck cf : List (Nat × List Nat)} {ac : AC} {st st' : St} {ex : Ex} {ρ : Nat → RV} {a : Act} {w : World} (hΓ : ∀ f, Sound C.P f (Γ f)) (hm : C.P.follows .mixedOrders = true) (hL : L.map (·.1) = ais)
    (hi : ∀ (i : Nat) (o : Oper), ops[i]? = some o → ∃ ai, ais[i]? = some ai ∧ ∃ ai0, cInstr C.P n ops o = some ai0 ∧ ai0.dst = ai.dst ∧ (∀ (env : Env) (hp hp1 : List Ob) (v : AV), stepI Γ env hp ai = some (v, hp1) → stepI Γ env hp ai0 = some (v, hp1)) ∧ (isF ai.op = true → ai0 = ai)) (hc : drawG ops.toList ais L anc ld ck cf = some ac)
    (hst : StR C ρ n st.env st.hp a w) (h : evC Γ K ac st = some (ex, st')) : (Code.region id ops true).wp C.P (QR C n ex st') a w := by
  unfold drawG at hc
  split at hc
  · rename_i hok
    obtain ⟨hok, hld, hokF⟩ := hok
    simp at hc; subst hc
    have S0 := static_of hok
    have hN : ops.toList.length = ops.size := by simp
    rw [hN] at S0 hokF
    simp only [evC] at h
    unfold normC at h
    split at h
    · simp at h
    · rename_i st1 hs1
      simp at h; obtain ⟨rfl, rfl⟩ := h
      unfold secF at hs1
      split at hs1
      · simp at hs1
      · rename_i cs hcs
        unfold finD at hs1
        split at hs1
        · simp at hs1
        · rename_i envN hpN hsN hev0
          unfold finF at hev0
          split at hev0
          · simp at hev0
          · rename_i envN' hpN' hsN' hev
            split at hev0
            · rename_i hckF
              simp at hev0
              obtain ⟨rfl, rfl, rfl⟩ := hev0
              split at hs1
              · rename_i hck
                simp at hs1; subst hs1
                generalize hn0 : st.hp.length = n0 at hev hck hckF
                obtain ⟨hlen, hcsf⟩ := ckFs_get hckF
                -- the replaced list
                have rep2 : ∀ x : AI × Bool × Option Nat, (repl1 n0 x).2 = (repl1 0 x).2 := fun x => by obtain ⟨ai, b, m⟩ := x; cases m <;> rfl
                have hmap : (L.map (repl1 n0)).map (·.2) = ld := by
                  rw [← hld, List.map_map, List.map_map]
                  exact List.map_congr_left fun x _ => rep2 x
                have g2 : ∀ i, ((L.map (repl1 n0)).map (·.1))[i]? = (L[i]?).map fun x => (repl1 n0 x).1 := fun i => by rw [List.map_map, List.getElem?_map]; rfl
                have S : Static ops.size ops.toList ((L.map (repl1 n0)).map (·.1)) ld anc ck := by
                  refine S0.turn (by simp) fun i x hx => ?_
                  rw [g2] at hx
                  obtain ⟨y, hy, rfl⟩ := Option.map_eq_some_iff.1 hx
                  refine ⟨(repl1 0 y).1, by simp [hy], ?_⟩
                  obtain ⟨ai, b, m⟩ := y
                  cases m <;> exact ⟨rfl, rfl, rfl⟩
                have hLlen : L.length = ops.size := by have := S.len; simpa using this
                obtain ⟨E, H, V, e1, e2, e3, e4, e5, e6⟩ := trace_of _ _ _ _ _ _ _ hev (fun p hp hb => by
                  obtain ⟨i, hi'⟩ := List.getElem?_of_mem hp
                  intro e
                  have h1 : ((L.map (repl1 n0)).map (·.1))[i]? = some p.1 := by rw [List.getElem?_map, hi']; rfl
                  have h2 : ld[i]? = some p.2 := by rw [← hmap, List.getElem?_map, hi']; rfl
                  have := (S.kind i p.1 h1).2 e
                  simp [List.getD, h2, hb] at this) ⟨[], rfl⟩
                have hzl : (L.map (repl1 n0)).length = ops.size := by simp [hLlen]
                rw [hzl] at e3 e4 e6
                rw [hmap] at e6
                subst e3 e4
                refine wp_region_any hm ?_
                simp only [okF, Bool.and_eq_true, List.all_eq_true, List.mem_range] at hokF
                obtain ⟨hF1, hF2⟩ := hokF
                -- the new rows
                have hfs : ∀ f, f ∈ (List.range cf.length).map (fun j => ((cf.getD j (0, [])).1, n0 + j, cs.getD j (.ints .u8 []))) → ∃ j i rs c, cf[j]? = some (i, rs) ∧ cs[j]? = some c ∧ f = (i, n0 + j, c) ∧ (∃ ai b, L[i]? = some (ai, b, some j)) := by
                  intro f hf
                  obtain ⟨j, hj, rfl⟩ := List.mem_map.1 hf
                  rw [List.mem_range] at hj
                  have h2 := hF2 j hj
                  unfold okF2 at h2
                  have hcj : cf[j]? = some cf[j] := List.getElem?_eq_getElem hj
                  rw [hcj] at h2
                  obtain ⟨c, hc, _, _⟩ := hcsf j cf[j].1 cf[j].2 hcj
                  refine ⟨j, cf[j].1, cf[j].2, c, hcj, hc, by simp [List.getD, hcj, hc], ?_⟩
                  simp only at h2
                  split at h2
                  · rename_i ai b x hx
                    simp at h2; subst h2
                    exact ⟨ai, b, hx⟩
                  · cases h2
                refine draw_anyF (fs := (List.range cf.length).map (fun j => ((cf.getD j (0, [])).1, n0 + j, cs.getD j (.ints .u8 [])))) (hs := hsN') (anc := anc) (ck := ck) (V := V) hΓ rfl (fun i o ho => ?_) (fun f hf => ?_) (fun f hf g hg hfg => ?_) S (fun i ai hai => ?_) (fun k hk => ?_) (fun c hc ai hai => ?_) ops.size _ a _ 0 (fun k => if k < st.hp.length then ρ k else ⟨.bool false, 0⟩) st.env ?_ ?_
                · obtain ⟨ai, hai, ai0, hci, hd0, href, hisF⟩ := hi i o ho
                  have hiN : i < ops.size := (Array.getElem?_eq_some_iff.1 ho).1
                  obtain ⟨b, m, hLi⟩ : ∃ b m, L[i]? = some (ai, b, m) := by
                    rw [← hL, List.getElem?_map] at hai
                    obtain ⟨⟨x, b, m⟩, hx, rfl⟩ := Option.map_eq_some_iff.1 hai
                    exact ⟨b, m, hx⟩
                  have hf1 := hF1 i hiN
                  rw [hLi] at hf1
                  cases m with
                  | none =>
                    refine ⟨ai, by rw [g2, hLi]; rfl, ai0, hci, hd0, .inl ⟨fun f hf e => ?_, ?_, href⟩⟩
                    · obtain ⟨j, i', rs, c, _, _, rfl, ⟨ai', b', hx⟩⟩ := hfs f hf
                      simp only at e; subst e
                      rw [hLi] at hx; simp at hx
                    · simp only [okF1, Bool.or_eq_true, List.all_eq_true] at hf1
                      rcases hf1 with h | h
                      · exact .inl h
                      · refine .inr fun f hf => ?_
                        obtain ⟨j, i', rs, c, hcf, _, rfl, _⟩ := hfs f hf
                        simpa using h (i', rs) (List.mem_of_getElem? hcf)
                  | some j =>
                    simp only [okF1, Bool.and_eq_true, beq_iff_eq, List.all_eq_true, List.mem_range, Bool.or_eq_true, Bool.not_eq_true', beq_eq_false_iff_ne, decide_eq_true_eq] at hf1
                    obtain ⟨⟨⟨⟨hg, hF⟩, hdst⟩, htmp⟩, hcj⟩ := hf1
                    obtain rfl := hisF hF
                    split at hcj
                    · rename_i c1 hc1
                      obtain ⟨i1, rs⟩ := c1
                      simp only [Bool.and_eq_true, beq_iff_eq, List.all_eq_true, List.mem_range, Bool.or_eq_true] at hcj
                      obtain ⟨rfl, hrk⟩ := hcj
                      obtain ⟨c, hcs', hck1, hsl⟩ := hcsf j i1 rs hc1
                      refine ⟨⟨ai0.dst, none, .mv (.const (.one (.row (n0 + j))))⟩, by rw [g2, hLi]; rfl, ai0, hci, rfl, .inr ⟨n0 + j, c, ?_, rfl, rfl, hg, fun Ed hEd M => ?_, fun t ht x hx e => ?_, fun k hk => ?_⟩⟩
                      · refine List.mem_map.2 ⟨j, List.mem_range.2 (List.getElem?_eq_some_iff.1 hc1).1, ?_⟩
                        simp [List.getD, hc1, hcs']
                      · refine F_op hF ?_ M
                        rw [hLi] at hck1
                        simp only [ckF1] at hck1
                        rw [evOp_congr hEd]
                        unfold rcIs at hck1
                        split at hck1
                        · rename_i d hd; rw [hd]; simp at hck1; rw [hck1]
                        · cases hck1
                      · have e' : dstAt ais x = some t := by
                          rw [← e]
                          unfold dstAt
                          rw [g2, ← hL, List.getElem?_map]
                          cases hx2 : L[x]? with
                          | none => rfl
                          | some y => obtain ⟨y1, y2, y3⟩ := y; cases y3 <;> rfl
                        rcases htmp t ht x hx with h | h
                        · exact absurd e' h
                        · exact ⟨h.1, by simpa using h.2⟩
                      · rcases hrk k (by omega) with h | h
                        · exact .inl h
                        · exact .inr (hsl _ (by simpa using h))
                    · cases hcj
                · obtain ⟨j, i', rs, c, _, _, rfl, ⟨ai', b', hx⟩⟩ := hfs f hf
                  have := (List.getElem?_eq_some_iff.1 hx).1
                  simp only; omega
                · obtain ⟨j, i', rs, c, h1, h2, rfl, ⟨ai', b', hx⟩⟩ := hfs f hf
                  obtain ⟨j2, i2, rs2, c2, h3, h4, rfl, ⟨ai2, b2, hx2⟩⟩ := hfs g hg
                  have ej : j = j2 := by
                    rcases hfg with e | e
                    · simp only at e; subst e
                      rw [hx] at hx2; simp at hx2; exact hx2.2.2
                    · simp only at e; omega
                  subst ej
                  rw [h1] at h3; rw [h2] at h4
                  simp at h3 h4
                  rw [h3.1, h4]
                · have : (L.map (repl1 n0))[i]? = some (ai, ld.getD i false) := by
                    rw [List.getElem?_map] at hai
                    obtain ⟨p, hp, rfl⟩ := Option.map_eq_some_iff.1 hai
                    rw [hp]
                    have h2 : ld[i]? = some p.2 := by rw [← hmap, List.getElem?_map, hp]; rfl
                    simp [List.getD, h2]
                  exact e5 i _ this
                · have := e6 k hk
                  simp at this
                  simp [List.getD, this]
                · have := ckAll_mem hck c hc
                  rw [List.getElem?_map] at hai
                  obtain ⟨p, hp, rfl⟩ := Option.map_eq_some_iff.1 hai
                  rw [hp] at this
                  obtain ⟨⟨dst, g, op⟩, bb⟩ := p
                  cases dst with
                  | none => cases this
                  | some d => exact ⟨d, rfl, fun r hr => ckKs_mem this r hr⟩
                · exact Nat.le_trans (List.length_filter_le _ _) (by simp)
                · have hno : ∀ j, ¬ doneD (Array.replicate ops.size false) j := by
                    intro j h
                    unfold doneD at h
                    rw [Array.getD_eq_getD_getElem?, Array.getElem?_replicate] at h
                    split at h <;> simp at h
                  have hpend : ∀ s, s ∈ pend ((List.range cf.length).map (fun j => ((cf.getD j (0, [])).1, n0 + j, cs.getD j (.ints .u8 [])))) (Array.replicate ops.size false) ↔ n0 ≤ s ∧ s < n0 + cs.length := by
                    intro s
                    rw [mem_pend]
                    constructor
                    · rintro ⟨f, hf, rfl, _⟩
                      obtain ⟨j, i', rs, c, h1, h2, rfl, _⟩ := hfs f hf
                      have := (List.getElem?_eq_some_iff.1 h2).1
                      simp only; omega
                    · rintro ⟨h1, h2⟩
                      exact ⟨_, List.mem_map.2 ⟨s - n0, List.mem_range.2 (by omega), rfl⟩, by simp only; omega, hno _⟩
                  have hmask : killAll (st.hp ++ rowsOf cs) (pend ((List.range cf.length).map (fun j => ((cf.getD j (0, [])).1, n0 + j, cs.getD j (.ints .u8 [])))) (Array.replicate ops.size false)) = st.hp ++ List.replicate cs.length .dead := by
                    apply List.ext_getElem?
                    intro x
                    rw [killAll_at]
                    rw [List.length_append, rowsOf_length]
                    by_cases hx : x < n0
                    · have : ¬ x ∈ pend ((List.range cf.length).map (fun j => ((cf.getD j (0, [])).1, n0 + j, cs.getD j (.ints .u8 [])))) (Array.replicate ops.size false) := fun h => by have := (hpend x).1 h; omega
                      rw [if_neg (fun h => this h.1), List.getElem?_append_left (by omega), List.getElem?_append_left (by omega)]
                    · by_cases hx2 : x < n0 + cs.length
                      · rw [if_pos ⟨(hpend x).2 ⟨by omega, hx2⟩, by omega⟩, List.getElem?_append_right (by omega), List.getElem?_replicate, if_pos (by omega)]
                      · rw [if_neg (fun h => by omega), List.getElem?_eq_none (by rw [List.length_append, rowsOf_length]; omega), List.getElem?_eq_none (by simp; omega)]
                  have hst0 := hst.deads cs.length
                  refine ⟨by simp, Nat.zero_le _, fun i o ho hd => absurd hd (hno i), fun j hj e => ⟨fun h => absurd h (hno j), fun h => by omega⟩, fun j d hd => absurd hd (hno j), fun t _ => by rw [e1], ?_, fun s hs => ?_, fun f hf => ?_⟩
                  · rw [e2, hmask]
                    exact ⟨hst0.env, hst0.heap.drew, hst0.fr.drew, hst0.size, hst0.defers⟩
                  · have := (hpend s).1 hs
                    unfold Poison
                    simp only
                    rw [if_neg (by omega)]
                  · obtain ⟨j, i', rs, c, h1, h2, rfl, _⟩ := hfs f hf
                    have := (List.getElem?_eq_some_iff.1 h2).1
                    rw [e2, List.length_append, rowsOf_length]
                    simp only; omega
              · simp at hs1
            · simp at hev0
  · simp at hc
theorem markF_fst : ∀ (ais : List AI) (fl : List Bool) (j : Nat), fl.length = ais.length → (markF j ais fl).map (·.1) = ais
  | [], fl, j, h => by cases fl <;> simp [markF]
  | a :: ais, [], j, h => by simp at h
  | a :: ais, true :: fl, j, h => by simp only [markF, List.map_cons]; rw [markF_fst ais fl (j + 1) (by simpa using h)]
  | a :: ais, false :: fl, j, h => by simp only [markF, List.map_cons]; rw [markF_fst ais fl j (by simpa using h)]
theorem drawF_ok {K : Nat} {id : Nat} {ops : Array Oper} {ais : List AI} {ac : AC} {st st' : St} {ex : Ex} {ρ : Nat → RV} {a : Act} {w : World} (hΓ : ∀ f, Sound C.P f (Γ f)) (hm : C.P.follows .mixedOrders = true)
    (hi : ∀ (i : Nat) (o : Oper), ops[i]? = some o → ∃ ai, ais[i]? = some ai ∧ ∃ ai0, cInstr C.P n ops o = some ai0 ∧ ai0.dst = ai.dst ∧ (∀ (env : Env) (hp hp1 : List Ob) (v : AV), stepI Γ env hp ai = some (v, hp1) → stepI Γ env hp ai0 = some (v, hp1)) ∧ (isF ai.op = true → ai0 = ai)) (hc : drawF ops.toList ais = some ac)
    (hst : StR C ρ n st.env st.hp a w) (h : evC Γ K ac st = some (ex, st')) : (Code.region id ops true).wp C.P (QR C n ex st') a w := by
  unfold drawF drawF1 at hc
  exact drawG_ok hΓ hm (markF_fst _ _ _ (by simp)) hi hc hst h
theorem drawB_ok {K : Nat} {id : Nat} {ops : Array Oper} {ais : List AI} {st st' : St} {ex : Ex} {ρ : Nat → RV} {a : Act} {w : World} (hΓ : ∀ f, Sound C.P f (Γ f)) (hm : C.P.follows .mixedOrders = true) (hi : cInstrs C.P n ops ops.toList = some ais)
    (hb : ¬ ∃ r, evC Γ K badC st = some r) (hst : StR C ρ n st.env st.hp a w) (h : evC Γ K (drawB ops.toList ais) st = some (ex, st')) : (Code.region id ops true).wp C.P (QR C n ex st') a w := by
  have hget : ∀ (i : Nat) (o : Oper), ops[i]? = some o → ∃ ai, ais[i]? = some ai ∧ cInstr C.P n ops o = some ai := fun i o ho => (instrs_get hi).2 i o (by simpa using ho)
  unfold drawB at h
  split at h
  · rename_i ac hc; exact drawE_ok hΓ hm hi hc hst h
  · split at h
    · rename_i ac hc
      refine drawF_ok hΓ hm (fun i o ho => ?_) hc hst h
      obtain ⟨ai, h1, h2⟩ := hget i o ho
      exact ⟨ai, h1, ai, h2, rfl, fun _ _ _ _ h => h, fun _ => rfl⟩
    · split at h
      · rename_i ac hc
        refine drawF_ok hΓ hm (fun i o ho => ?_) hc hst h
        obtain ⟨ai, h1, h2⟩ := hget i o ho
        refine ⟨toP ai, by rw [List.getElem?_map, h1]; rfl, ai, h2, (toP_dst ai).symm, fun _ _ _ _ h => toP_step h, fun h => ?_⟩
        obtain ⟨d, g, op⟩ := ai
        cases op <;> first | rfl | (simp [toP, isF] at h)
      · exact absurd ⟨_, h⟩ hb
end
end Go.X
