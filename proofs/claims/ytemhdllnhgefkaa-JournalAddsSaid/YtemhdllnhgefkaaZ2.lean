import Derived.ProofKit
import Derived.OpenShut
import Derived.Carry
import Derived.Shelf.Strings.Builder1
import Derived.Shelf.Slices.Turned
import Derived.Ground.Names2Prog
import Derived.Shelf.Slices.Clone
import Derived.Test.YtemhdllnhgefkaaProg
import Derived.BigCall
import Derived.Lib.AppendStr
import Derived.Test.YtemhdllnhgefkaaChecked
import Derived.Test.YtemhdllnhgefkaaZ1
set_option linter.unusedVariables false
set_option linter.unusedSimpArgs false
set_option linter.unusedVariables false
set_option linter.unusedSimpArgs false
namespace Go.X
/-! ### regions in which new rows come in an order that nobody knows -/
section
variable {Γ : Nat → Callee} {C : Cx} {n n' : Nat} {ρ ρ' : Nat → RV} {s : Nat}
theorem killAll_at {k : Nat} : ∀ {S : List Nat} (hp : List Ob), (killAll hp S)[k]? = if k ∈ S ∧ k < hp.length then some .dead else hp[k]?
  | [], hp => by simp [killAll]
  | x :: S, hp => by
    simp only [killAll]
    rw [killAll_at (S := S)]
    by_cases e : k = x
    · subst e
      by_cases hk : k < hp.length
      · simp [hk]
      · simp [hk, List.getElem?_set]
    · simp [e, List.getElem?_set_ne (Ne.symm e)]
/-- Which rows are not there yet. -/
def pend (fs : List (Nat × Nat × RC)) (listed : Array Bool) : List Nat := (fs.filter fun f => !listed.getD f.1 false).map (·.2.1)
theorem mem_pend {fs : List (Nat × Nat × RC)} {listed : Array Bool} {s : Nat} : s ∈ pend fs listed ↔ ∃ f ∈ fs, f.2.1 = s ∧ ¬ doneD listed f.1 := by
  simp only [pend, List.mem_map, List.mem_filter, Bool.not_eq_true', doneD, Bool.not_eq_true]
  constructor
  · rintro ⟨f, ⟨h1, h2⟩, h3⟩; exact ⟨f, h1, h3, h2⟩
  · rintro ⟨f, h1, h3, h2⟩; exact ⟨f, ⟨h1, h2⟩, h3⟩
theorem F_op {op : AOp} {env : Env} {c : RC} (hf : isF op = true) (h : rowOf (evOp Γ env [] op) = some c) (M : List Ob) : evOp Γ env M op = some (.one (.row M.length), M ++ [.rows c]) := by
  have put : ∀ {r : Option RC}, rowOf (putR [] r) = some c → putR M r = some (.one (.row M.length), M ++ [.rows c]) := by
    intro r h
    cases r with
    | none => simp [putR, rowOf] at h
    | some d =>
      simp [putR, newRow, rowOf] at h
      subst h; rfl
  cases op
  case newNil c0 => simp only [evOp] at h ⊢; exact put (r := some c0) h
  case bslice c0 z l ps => simp only [evOp] at h ⊢; exact put h
  case mks c0 z b l x =>
    simp only [evOp] at h ⊢
    unfold oMks at h ⊢
    split at h
    · split at h
      · rename_i hc; rw [if_pos hc]; exact put h
      · simp [rowOf] at h
    · simp [rowOf] at h
  case append c0 b x y =>
    obtain ⟨d0, rfl⟩ : ∃ d0, x = .const (.one (.nils d0)) := by
      cases x with
      | tmp t => simp [isF] at hf
      | const v =>
        cases v with
        | one v => cases v <;> first | exact ⟨_, rfl⟩ | simp [isF] at hf
        | agg l => simp [isF] at hf
        | tup l => simp [isF] at hf
    have e0 : getS env (.const (.one (.nils d0))) = .nils d0 := rfl
    simp only [evOp, Go.X.append, e0] at h ⊢
    generalize getS env y = yv at h ⊢
    have src : ∀ d, source [] c0 yv = some d → source M c0 yv = some d := by
      intro d hd
      cases yv <;> simp [source, content, rowAt, cutAt] at hd ⊢ <;> exact hd
    cases hy : source [] c0 yv with
    | none => rw [hy] at h; simp [app1, rowOf] at h
    | some d =>
      rw [hy] at h
      rw [src d hy]
      simp only [app1, app2] at h ⊢
      split at h
      · rename_i hc; rw [if_pos hc]; exact put h
      · simp [rowOf] at h
  all_goals simp [isF] at hf
theorem noKey_of {S : List Nat} {env : Env} {a : Act} {x : AO} (hS : ∀ k ∈ S, Poison ρ k) (he : EnvR C n ρ env a) (h : noKey x = true) : ¬ keyIn S (getS env x) := by
  cases x with
  | const v =>
    simp only [noKey] at h
    simp only [getS, getO]
    generalize v.sv = w at h
    cases w <;> simp [keyIn] at h ⊢
  | tmp t =>
    simp only [getS, getO]
    have h1 := he t
    generalize getT t env = v at h1
    generalize a.tmps.getD t undef = u at h1
    cases h1 with
    | one v u h => exact VR.not_in hS h
    | agg l vs h => simp [AV.sv, keyIn]
    | tup l vs h => simp [AV.sv, keyIn]
theorem freeK_of {S : List Nat} {env : Env} {a : Act} {op : AOp} (hS : ∀ k ∈ S, Poison ρ k) (he : EnvR C n ρ env a) (h : freeK op = true) : freeOp env S op := by
  cases op <;> simp only [freeK, Bool.and_eq_true, decide_eq_true_eq] at h <;> simp only [freeOp] <;> first | exact h | exact noKey_of hS he h | exact ⟨noKey_of hS he h.1, noKey_of hS he h.2⟩
theorem step_kill {S : List Nat} {env : Env} {a : Act} {ai : AI} {hp hp1 : List Ob} {v : AV} (hS : ∀ k ∈ S, Poison ρ k) (hl : ∀ k ∈ S, k < hp.length) (he : EnvR C n ρ env a) (hf : freeK ai.op = true) (h : stepI Γ env hp ai = some (v, hp1)) : stepI Γ env (killAll hp S) ai = some (v, killAll hp1 S) := by
  obtain ⟨dst, g, op⟩ := ai
  cases g with
  | none => exact op_kill hl (freeK_of hS he hf) h
  | some g =>
    obtain ⟨t, b⟩ := g
    simp only [stepI] at h ⊢
    unfold stepG at h ⊢
    split at h
    · split at h
      · rename_i hc; simp only [if_pos hc]; exact op_kill hl (freeK_of hS he hf) h
      · rename_i hc
        simp at h; obtain ⟨rfl, rfl⟩ := h
        simp only [if_neg hc]
    · simp at h; obtain ⟨rfl, rfl⟩ := h; rfl
    · simp at h
/-- A state with a new row behind it, the row moved to its slot. -/
theorem StR.slot {env : Env} {M : List Ob} {a : Act} {w w' : World} {c : RC} {u : Value} {dst : Option Nat} (h : StR C ρ n env M a w) (hs : Poison ρ s) (hl : s < M.length) (E : Ext M.length ρ ρ')
    (hv : AVR C (M ++ [Ob.rows c]).length ρ' (.one (.row M.length)) u) (hH : HR C ρ' (M ++ [.rows c]) w') (hF : FR C w') (hd : cDst n dst = true) :
    StR C (fillR ρ' s (ρ' M.length)) n (putE env dst (.one (.row s))) (M.set s (.rows c)) (a.put dst u) w' := by
  have hp' : Poison ρ' s := by unfold Poison at hs ⊢; rw [E s hl]; exact hs
  have e1 : EnvR C M.length (fillR ρ' s (ρ' M.length)) env a := fun t => AVR.fill hp' (fun k hk => fillR_ne hk) ((h.env.ext (Nat.le_refl _) E) t)
  refine ⟨?_, ?_, hF, by rw [put_size]; exact h.size, by rw [put_defers]; exact h.defers⟩
  · rw [List.length_set]
    refine e1.put ?_ dst (fun d e => ?_)
    · cases hv with
      | one _ _ hv =>
        cases hv with
        | row _ a0 m cap hk hh =>
          exact .one _ _ (.row s a0 m cap hl (by simp [fillR, hh]))
    · subst e
      simp [cDst] at hd
      exact Nat.lt_of_lt_of_le hd h.size
  · have := hH.slot (L := M.length) (s := s) (by simp) hl
    rw [slotHp_new h.heap hs] at this
    exact this
structure DInvF (C : Cx) (n N : Nat) (ops : Array Oper) (ais : List AI) (ld : List Bool) (fs : List (Nat × Nat × RC)) (E0 : Env) (H : Nat → List Ob) (V : Nat → AV) (listed : Array Bool) (a : Act) (w : World) (k : Nat) (ρ : Nat → RV) (Ed : Env) : Prop where
  size : listed.size = N
  le : k ≤ N
  closed : ∀ (i : Nat) (o : Oper), ops[i]? = some o → doneD listed i → ∀ e ∈ dirs o, doneD listed e
  loud : ∀ j, j < N → ld.getD j false = true → (doneD listed j ↔ j < k)
  val : ∀ j d, doneD listed j → dstAt ais j = some d → getT d Ed = V j
  old : ∀ t, (∀ j, doneD listed j → dstAt ais j ≠ some t) → getT t Ed = getT t E0
  st : StR C ρ n Ed (killAll (H k) (pend fs listed)) a w
  poi : ∀ s ∈ pend fs listed, Poison ρ s
  slots : ∀ f ∈ fs, f.2.1 < (H k).length
/-- What is asked of the i-th operation: it is served, and may be done while rows lack; or it is a new row. -/
def Kind (Γ : Nat → Callee) (P : Program) (n N : Nat) (ops : Array Oper) (ais : List AI) (ld : List Bool) (anc : List (List Nat)) (hs : List (List Ob)) (fs : List (Nat × Nat × RC)) (EN : Env) (i : Nat) (o : Oper) : Prop :=
  ∃ ai, ais[i]? = some ai ∧ ∃ ai0, cInstr P n ops o = some ai0 ∧ ai0.dst = ai.dst ∧
    (((∀ f ∈ fs, f.1 ≠ i) ∧ (freeK ai.op = true ∨ ∀ f ∈ fs, f.1 ∈ anc.getD i []) ∧ ∀ (env : Env) (hp hp1 : List Ob) (v : AV), stepI Γ env hp ai = some (v, hp1) → stepI Γ env hp ai0 = some (v, hp1)) ∨
     ∃ s c, (i, s, c) ∈ fs ∧ ai.op = .mv (.const (.one (.row s))) ∧ ai.guard = none ∧ ai0.guard = none ∧ (∀ Ed : Env, (∀ t ∈ opT ai0.op, getT t Ed = getT t EN) → ∀ M, evOp Γ Ed M ai0.op = some (.one (.row M.length), M ++ [.rows c])) ∧
      (∀ t ∈ opT ai0.op, ∀ j, j < N → dstAt ais j = some t → j < i ∧ j ∈ anc.getD i []) ∧ ∀ k, k ≤ N → offD N ld anc i k = true ∨ (hs.getD (rank ld k) [])[s]? = some (Ob.rows c))
theorem draw_anyF {N : Nat} {ops : Array Oper} {ais : List AI} {ld : List Bool} {anc : List (List Nat)} {ck : List (Nat × List Nat)} {fs : List (Nat × Nat × RC)} {E : Nat → Env} {H : Nat → List Ob} {V : Nat → AV} {hs : List (List Ob)} {rts : List SV}
    (hΓ : ∀ f, Sound C.P f (Γ f)) (hN : ops.size = N) (hi : ∀ (i : Nat) (o : Oper), ops[i]? = some o → Kind Γ C.P n N ops ais ld anc hs fs (E N) i o) (fsN0 : ∀ f ∈ fs, f.1 < N) (huf : ∀ f ∈ fs, ∀ g ∈ fs, f.1 = g.1 ∨ f.2.1 = g.2.1 → f = g) (S : Static N ops.toList ais ld anc ck)
    (hstep : ∀ (i : Nat) (ai : AI), ais[i]? = some ai → stepI Γ (E i) (H i) ai = some (V i, H (i + 1)) ∧ E (i + 1) = putE (E i) ai.dst (V i))
    (hrank : ∀ k, k ≤ N → hs.getD (rank ld k) [] = H k)
    (hck : ∀ c ∈ ck, ∀ ai, ais[c.1]? = some ai → ∃ d, ai.dst = some d ∧ ∀ r ∈ c.2, ∃ hp', stepI Γ (E N) (hs.getD r []) ai = some (getT d (E N), hp')) :
    ∀ (fuel : Nat) (listed : Array Bool) (a : Act) (w : World) (k : Nat) (ρ : Nat → RV) (Ed : Env), ((List.range N).filter fun j => !listed.getD j false).length ≤ fuel → DInvF C n N ops ais ld fs (E 0) H V listed a w k ρ Ed →
      wpAny C.P .any ops (QR C n .norm ⟨E N, rts, H N⟩) fuel listed a w := by
  -- ahead: what the order cannot touch
  have un : ∀ i, i < N → ∃ ai, ais[i]? = some ai := fun i h => ⟨_, List.getElem?_eq_getElem (by rw [S.len]; exact h)⟩
  have uo : ∀ i, i < N → ∃ o, ops[i]? = some o := fun i h => ⟨_, Array.getElem?_eq_getElem (by omega)⟩
  have dlt : ∀ j d, dstAt ais j = some d → j < N := by
    intro j d h
    unfold dstAt at h
    obtain ⟨ai, h, _⟩ := bind_some h
    have := (List.getElem?_eq_some_iff.1 h).1
    rw [S.len] at this; exact this
  have uniq : ∀ i j d, dstAt ais i = some d → dstAt ais j = some d → i = j := by
    intro i j d h1 h2
    rcases Nat.lt_trichotomy i j with h | h | h
    · exact absurd h1 (S.dst j i d (dlt _ _ h2) h h2)
    · exact h
    · exact absurd h2 (S.dst i j d (dlt _ _ h1) h h1)
  have dstE : ∀ i ai, ais[i]? = some ai → dstAt ais i = ai.dst := fun i ai h => by simp [dstAt, h]
  have look : ∀ i, i ≤ N → ∀ t, ((∀ j, j < i → dstAt ais j ≠ some t) → getT t (E i) = getT t (E 0)) ∧ (∀ j, j < i → dstAt ais j = some t → getT t (E i) = V j) := by
    intro i
    induction i with
    | zero => intro _ t; exact ⟨fun _ => rfl, fun j hj => by omega⟩
    | succ i ih =>
      intro hle t
      obtain ⟨ai, hai⟩ := un i (by omega)
      rw [(hstep i ai hai).2]
      have hd := dstE i ai hai
      obtain ⟨h1, h2⟩ := ih (by omega) t
      refine ⟨fun h => ?_, fun j hj e => ?_⟩
      · cases e : ai.dst with
        | none => simp only [putE]; exact h1 fun j hj => h j (by omega)
        | some d =>
          simp only [putE, getT]
          rw [if_neg (by rintro rfl; exact h i (by omega) (by rw [hd, e]))]
          exact h1 fun j hj => h j (by omega)
      · by_cases hji : j = i
        · subst hji
          rw [hd] at e; rw [e]; simp [putE, getT]
        · cases e' : ai.dst with
          | none => simp only [putE]; exact h2 j (by omega) e
          | some d =>
            simp only [putE, getT]
            rw [if_neg (by rintro rfl; exact hji (uniq j i t e (by rw [hd, e'])))]
            exact h2 j (by omega) e
  have lookN : ∀ i, i ≤ N → ∀ t, (∀ j, j < N → i ≤ j → dstAt ais j ≠ some t) → getT t (E N) = getT t (E i) := by
    intro i hi t h
    by_cases hex : ∃ j, j < N ∧ dstAt ais j = some t
    · obtain ⟨j, hj, e⟩ := hex
      have hji : j < i := Nat.lt_of_not_le fun h' => h j hj h' e
      rw [(look N (Nat.le_refl _) t).2 j hj e, (look i hi t).2 j hji e]
    · have h' : ∀ j, j < N → dstAt ais j ≠ some t := fun j hj e => hex ⟨j, hj, e⟩
      rw [(look N (Nat.le_refl _) t).1 h', (look i hi t).1 fun j hj => h' j (by omega)]
  have quiet : ∀ i k, k ≤ i → i ≤ N → (∀ j, k ≤ j → j < i → ld.getD j false = false) → H i = H k := by
    intro i k hki
    induction hki with
    | refl => intros; rfl
    | @step m hkm ih =>
      intro hN' hq
      obtain ⟨ai, hai⟩ := un m (by omega)
      have hl := hq m hkm (by omega)
      have hk2 : opKind ai.op ≠ 2 := fun e => by rw [(S.kind m ai hai).2 e] at hl; cases hl
      rw [quiet_step hk2 (hstep m ai hai).1]
      exact ih (by omega) fun j h1 h2 => hq j h1 (by omega)
  have anc_done : ∀ (listed : Array Bool), listed.size = N → (∀ (i : Nat) (o : Oper), ops[i]? = some o → doneD listed i → ∀ e ∈ dirs o, doneD listed e) → ∀ i, doneD listed i → ∀ j ∈ anc.getD i [], doneD listed j := by
    intro listed hsz hcl i
    induction i using Nat.strongRecOn with
    | _ i ih =>
      intro hd j hj
      have hiN : i < N := by
        rcases Nat.lt_or_ge i N with h | h
        · exact h
        · unfold doneD at hd; rw [Array.getD_eq_getD_getElem?, Array.getElem?_eq_none (by omega)] at hd; cases hd
      obtain ⟨o, ho⟩ := uo i hiN
      obtain ⟨h1, h2⟩ := S.edge i hiN o (by simpa using ho)
      rcases h2 j hj with h | ⟨e, he, h⟩
      · exact hcl i o ho hd j h
      · exact ih e (h1 e he) (hcl i o ho hd e he) j h
  have fsN : ∀ f ∈ fs, f.1 < N := fsN0
  -- when all is done
  have fin : ∀ (listed : Array Bool) (a : Act) (w : World) (k : Nat) (ρ : Nat → RV) (Ed : Env), DInvF C n N ops ais ld fs (E 0) H V listed a w k ρ Ed → (∀ j, j < N → doneD listed j) → QR C n .norm ⟨E N, rts, H N⟩ .normal a w := by
    intro listed a w k ρ Ed I hall
    have hH : H N = H k := quiet N k I.le (Nat.le_refl _) fun j h1 h2 => by
      cases hl : ld.getD j false
      · rfl
      · have := (I.loud j h2 hl).1 (hall j h2); omega
    have hst : StR C ρ n Ed (H k) a w := by
      have e : pend fs listed = [] := by
        cases hp : pend fs listed with
        | nil => rfl
        | cons s l =>
          exfalso
          obtain ⟨f, hf, _, h2⟩ := mem_pend.1 (show s ∈ pend fs listed by rw [hp]; simp)
          have hfN : f.1 < N := fsN f hf
          exact h2 (hall _ hfN)
      have := I.st
      rw [e] at this
      exact this
    refine ⟨rfl, ρ, ⟨fun t => ?_, by rw [hH]; exact hst.heap, hst.fr, hst.size, hst.defers⟩⟩
    have hT : getT t (E N) = getT t Ed := by
      by_cases hex : ∃ j, j < N ∧ dstAt ais j = some t
      · obtain ⟨j, hj, e⟩ := hex
        rw [(look N (Nat.le_refl _) t).2 j hj e, I.val j t (hall j hj) e]
      · rw [(look N (Nat.le_refl _) t).1 fun j hj e => hex ⟨j, hj, e⟩, I.old t fun j hd e => hex ⟨j, dlt j t e, e⟩]
    rw [hT, hH]
    exact hst.env t
  have rdy : ∀ (listed : Array Bool), listed.size = N → Region.ready .any ops listed = [] → ∀ j, j < N → doneD listed j := by
    intro listed hsz hr j
    induction j using Nat.strongRecOn with
    | _ j ih =>
      intro hj
      obtain ⟨o, ho⟩ := uo j hj
      cases hd : listed.getD j false with
      | true => exact hd
      | false =>
        exfalso
        have : j ∈ Region.ready .any ops listed := by
          rw [mem_ready]
          refine ⟨?_, o, ho, fun e he hb => ?_⟩
          · rw [Array.getD_eq_getD_getElem?, Array.getElem?_eq_getElem (by omega)] at hd ⊢; exact hd
          · have hlt := (S.edge j hj o (by simpa using ho)).1 e.on (mem_dirs.2 ⟨e, he, hb, rfl⟩)
            exact ih e.on hlt (by omega)
        rw [hr] at this; cases this
  intro fuel
  induction fuel with
  | zero =>
    intro listed a w k ρ Ed hf I
    have hall : ∀ j, j < N → doneD listed j := by
      intro j hj
      cases hd : listed.getD j false with
      | true => exact hd
      | false =>
        have : j ∈ (List.range N).filter fun j => !listed.getD j false := by simp only [List.mem_filter, List.mem_range, hd]; exact ⟨hj, rfl⟩
        have := List.length_pos_of_mem this
        omega
    refine ⟨?_, fin listed a w k ρ Ed I hall⟩
    cases hr : Region.ready .any ops listed with
    | nil => rfl
    | cons x xs =>
      exfalso
      have hx : x ∈ Region.ready .any ops listed := by rw [hr]; simp
      obtain ⟨h0, o, ho, _⟩ := mem_ready.1 hx
      have hxN : x < N := by have := (Array.getElem?_eq_some_iff.1 ho).1; omega
      have := hall x hxN
      unfold doneD at this
      rw [Array.getD_eq_getD_getElem?, Array.getElem?_eq_getElem (by rw [I.size]; exact hxN)] at h0 this
      simp at h0 this; rw [h0] at this; cases this
  | succ fuel ihf =>
    intro listed a w k ρ Ed hf I
    refine ⟨fun hr => fin listed a w k ρ Ed I (rdy listed I.size hr), fun i hir => ?_⟩
    obtain ⟨h0, o, ho, hedges⟩ := mem_ready.1 hir
    have hiN : i < N := by have := (Array.getElem?_eq_some_iff.1 ho).1; omega
    have hnd : ¬ doneD listed i := by
      unfold doneD
      rw [Array.getD_eq_getD_getElem?, Array.getElem?_eq_getElem (by rw [I.size]; exact hiN)] at h0 ⊢
      simp at h0 ⊢; exact h0
    obtain ⟨ai, hai, ai0, hci, hd0, hkd⟩ := hi i o ho
    have hdirs : ∀ e ∈ dirs o, doneD listed e := fun e he => by
      obtain ⟨x, h1, h2, rfl⟩ := mem_dirs.1 he
      exact hedges x h1 h2
    have hanc : ∀ j ∈ anc.getD i [], doneD listed j := fun j hj => by
      rcases (S.edge i hiN o (by simpa using ho)).2 j hj with h | ⟨e, he, h⟩
      · exact hdirs j h
      · exact anc_done listed I.size I.closed e (hdirs e he) j h
    have hback : ∀ j, doneD listed j → i ∈ anc.getD j [] → False := fun j hd hj => hnd (anc_done listed I.size I.closed j hd i hj)
    -- what the operation looks at is what it was in the text's order
    have look_i : ∀ t ∈ aiT ai, getT t Ed = getT t (E i) := by
      intro t ht
      by_cases hex : ∃ j, j < N ∧ dstAt ais j = some t
      · obtain ⟨j, hj, e⟩ := hex
        have old : ¬ doneD listed j → i ≤ j → getT t Ed = getT t (E i) := fun hd hle => by
          rw [I.old t fun j' hd' e' => hd (uniq j' j t e' e ▸ hd'), (look i (by omega) t).1 fun j' hj' e' => by have := uniq j' j t e' e; omega]
        rcases S.tmp i ai hai t ht j hj e with h | ⟨h1, h2⟩ | ⟨h1, h2⟩
        · exact old (h ▸ hnd) (by omega)
        · rw [I.val j t (hanc j h2) e, (look i (by omega) t).2 j h1 e]
        · exact old (fun hd => hback j hd h2) (by omega)
      · rw [I.old t fun j hd e => hex ⟨j, dlt j t e, e⟩, (look i (by omega) t).1 fun j hj e => hex ⟨j, by omega, e⟩]
    obtain ⟨hs1, hs2⟩ := hstep i ai hai
    -- what it comes to
    have run : ∃ k', k' ≤ N ∧ stepI Γ Ed (H k) ai = some (V i, H k') ∧ (∀ j, j < N → ld.getD j false = true → (doneD listed j ∨ j = i ↔ j < k')) ∧ (opKind ai.op ≠ 2 → k' = k) := by
      have hcong : ∀ h, stepI Γ Ed h ai = stepI Γ (E i) h ai := fun h => step_congr look_i h
      have hkind := S.kind i ai hai
      by_cases h2 : opKind ai.op = 2
      · have hl := hkind.2 h2
        have hki : k ≤ i := Nat.le_of_not_lt fun h => hnd ((I.loud i hiN hl).2 h)
        have hH : H i = H k := quiet i k hki (by omega) fun j h1 h3 => by
          cases e : ld.getD j false
          · rfl
          · have := (I.loud j (by omega) e).1 (hanc j (S.loud i j hiN h3 hl e)); omega
        refine ⟨i + 1, hiN, by rw [hcong, ← hH]; exact hs1, fun j hj e => ⟨?_, fun hj' => ?_⟩, fun h => absurd h2 h⟩
        · rintro (h | h)
          · have := (I.loud j hj e).1 h; omega
          · omega
        · by_cases hji : j = i
          · exact .inr hji
          · exact .inl (hanc j (S.loud i j hiN (by omega) hl e))
      · have hl : ld.getD i false = false := by
          cases e : ld.getD i false
          · rfl
          · exact absurd (hkind.1 e) h2
        refine ⟨k, I.le, ?_, fun j hj e => ?_, fun _ => rfl⟩
        · rw [hcong]
          by_cases h3 : opKind ai.op = 0
          · exact (pure_step h3 hs1).2 _
          · have h1 : opKind ai.op = 1 := by
              have : opKind ai.op ≤ 2 := by
                unfold opKind; split <;> first | omega | skip
                all_goals (split <;> omega)
              omega
            obtain ⟨hr, hr2⟩ := S.read i ai hai h1
            rcases hr k I.le with h | h | ⟨c, hc, hci', hck'⟩
            · exfalso
              simp only [offD, Bool.or_eq_true, List.any_eq_true, Bool.and_eq_true, decide_eq_true_eq, List.mem_range] at h
              rcases h with ⟨j, hj, hlj, hkj⟩ | ⟨j, hj, ⟨hlj, hkj⟩, hij⟩
              · have hjd := hanc j hj
                have hjN : j < N := by
                  rcases Nat.lt_or_ge j N with h | h
                  · exact h
                  · unfold doneD at hjd; rw [Array.getD_eq_getD_getElem?, Array.getElem?_eq_none (by rw [I.size]; omega)] at hjd; cases hjd
                have := (I.loud j hjN hlj).1 hjd
                omega
              · exact hback j ((I.loud j hj hlj).2 hkj) (by simpa using hij)
            · have hH : H k = H i := by rw [← hrank k I.le, ← hrank i (by omega), h]
              have hq : H (i + 1) = H i := quiet_step h2 hs1
              rw [hH]; rw [hq] at hs1; exact hs1
            · obtain ⟨d, hd, hrun⟩ := hck c hc ai (by rw [hci']; exact hai)
              obtain ⟨hp4, h4⟩ := hrun _ hck'
              rw [hrank k I.le] at h4
              obtain rfl := quiet_step h2 h4
              rw [step_congr (env' := E i) fun t ht => lookN i (by omega) t fun j hj hij => hr2 ⟨c, hc, hci'⟩ t ht j hj hij] at h4
              rw [h4, (look N (Nat.le_refl _) d).2 i hiN (by rw [dstE i ai hai, hd])]
        · constructor
          · rintro (h | h)
            · exact (I.loud j hj e).1 h
            · subst h; rw [hl] at e; cases e
          · intro h; exact .inl ((I.loud j hj e).2 h)
    obtain ⟨k', hk', hrun, hloud, hkk⟩ := run
    obtain ⟨hdc, hdst0, _, _⟩ := instr_inv hci
    have hdst : ai.dst = o.dst := by rw [← hd0]; exact hdst0
    have hsz : i < listed.size := by rw [I.size]; exact hiN
    have cont : ∀ (ρ' : Nat → RV) (u : Value) (w' : World), StR C ρ' n (putE Ed o.dst (V i)) (killAll (H k') (pend fs (listed.setIfInBounds i true))) (a.put o.dst u) w' → (∀ s ∈ pend fs (listed.setIfInBounds i true), Poison ρ' s) → (H k).length ≤ (H k').length → wpAny C.P .any ops (QR C n .norm ⟨E N, rts, H N⟩) fuel (listed.setIfInBounds i true) (a.put o.dst u) w' := fun ρ' u w' hst' hpo' hlen' => by
      refine ihf _ _ _ k' ρ' (putE Ed o.dst (V i)) ?_ ⟨by simp [I.size], hk', fun j o' ho' hd e he => ?_, fun j hj e => ?_, fun j d hd e => ?_, fun t ht => ?_, hst', hpo', fun f hf => Nat.lt_of_lt_of_le (I.slots f hf) hlen'⟩
      · have : ((List.range N).filter fun j => !(listed.setIfInBounds i true).getD j false).length < ((List.range N).filter fun j => !listed.getD j false).length := by
          refine filter_lt (i := i) (fun x hx => ?_) (List.mem_range.2 hiN) ?_ ?_
          · simp only [Bool.not_eq_true'] at hx ⊢
            cases e : listed.getD x false
            · rfl
            · rw [getD_set_true e] at hx; cases hx
          · simp only [Bool.not_eq_true']
            cases e : listed.getD i false
            · rfl
            · exact absurd e hnd
          · simp only [Bool.not_eq_false']
            exact (done_set hsz).2 (.inr rfl)
        omega
      · rw [done_set hsz] at hd ⊢
        rcases hd with hd | rfl
        · exact .inl (I.closed j o' ho' hd e he)
        · rw [ho] at ho'; simp at ho'; subst ho'
          exact .inl (hdirs e he)
      · rw [done_set hsz]; exact hloud j hj e
      · rw [done_set hsz] at hd
        have hdi := dstE i ai hai
        by_cases hji : j = i
        · subst hji
          rw [hdi, hdst] at e
          rw [e]; simp [putE, getT]
        · have hd' : doneD listed j := hd.resolve_right hji
          cases e' : o.dst with
          | none => simp only [putE]; exact I.val j d hd' e
          | some d' =>
            simp only [putE, getT]
            rw [if_neg (by rintro rfl; exact hji (uniq j i d e (by rw [hdi, hdst, e'])))]
            exact I.val j d hd' e
      · have hdi := dstE i ai hai
        cases e' : o.dst with
        | none => simp only [putE]; exact I.old t fun j hd => ht j ((done_set hsz).2 (.inl hd))
        | some d' =>
          simp only [putE, getT]
          rw [if_neg (by rintro rfl; exact ht i ((done_set hsz).2 (.inr rfl)) (by rw [hdi, hdst, e']))]
          exact I.old t fun j hd => ht j ((done_set hsz).2 (.inl hd))
    have pend_sub : ∀ s, s ∈ pend fs (listed.setIfInBounds i true) ↔ ∃ f ∈ fs, f.2.1 = s ∧ ¬ doneD listed f.1 ∧ f.1 ≠ i := fun s => by
      rw [mem_pend]
      constructor
      · rintro ⟨f, h1, h2, h3⟩
        rw [done_set hsz] at h3
        exact ⟨f, h1, h2, fun h => h3 (.inl h), fun h => h3 (.inr h)⟩
      · rintro ⟨f, h1, h2, h3, h4⟩
        refine ⟨f, h1, h2, ?_⟩
        rw [done_set hsz]
        rintro (h | h)
        · exact h3 h
        · exact h4 h
    have plt : ∀ s ∈ pend fs listed, s < (H k).length := fun s hs => by
      obtain ⟨f, hf, rfl, _⟩ := mem_pend.1 hs
      exact I.slots f hf
    have key : if Region.wanted o (yielded ops a.tmps) = true then o.wp C.P a w (wpAny C.P .any ops (QR C n .norm ⟨E N, rts, H N⟩) fuel (listed.setIfInBounds i true)) (QR C n .norm ⟨E N, rts, H N⟩) else wpAny C.P .any ops (QR C n .norm ⟨E N, rts, H N⟩) fuel (listed.setIfInBounds i true) (a.put o.dst undef) w := by
      rcases hkd with ⟨hnf, hfree, href⟩ | ⟨s, c, hmem, hop, hgd, hgd0, hev, htmp, hslot⟩
      · have epend : pend fs (listed.setIfInBounds i true) = pend fs listed := by
          unfold pend
          congr 1
          refine List.filter_congr fun f hf => ?_
          congr 1
          exact getD_set_ne false (Ne.symm (hnf f hf))
        rw [epend] at cont
        have hmask : stepI Γ Ed (killAll (H k) (pend fs listed)) ai = some (V i, killAll (H k') (pend fs listed)) := by
          rcases hfree with hf | hf
          · exact step_kill I.poi plt I.st.env hf hrun
          · have e : pend fs listed = [] := by
              cases hp : pend fs listed with
              | nil => rfl
              | cons x l =>
                exfalso
                obtain ⟨f, hff, _, h2⟩ := mem_pend.1 (show x ∈ pend fs listed by rw [hp]; simp)
                exact h2 (hanc _ (hf f hff))
            rw [e]; exact hrun
        refine step_ok hΓ hci I.st (href _ _ _ _ hmask) (fun ρ' u w' h1 h2 h3 h4 h5 => ?_)
        refine cont ρ' u w' (I.st.next h1 h2 h3 h4 h5 hdc) (fun s hs => ?_) (by simpa [killAll_length] using h1)
        have := I.poi s hs
        unfold Poison at this ⊢
        rw [h2 s (by rw [killAll_length]; exact plt s hs)]; exact this
      · have hs : s ∈ pend fs listed := mem_pend.2 ⟨_, hmem, rfl, hnd⟩
        have hsl := plt s hs
        have hVi : V i = .one (.row s) := by
          obtain ⟨dst, g, op⟩ := ai
          simp only at hop hgd
          subst hop hgd
          simp only [stepI, evOp, getO, Option.some.injEq, Prod.mk.injEq] at hs1
          exact hs1.1.symm
        obtain rfl := hkk (by rw [hop]; simp [opKind])
        have hstep0 : stepI Γ Ed (killAll (H k') (pend fs listed)) ai0 = some (.one (.row (killAll (H k') (pend fs listed)).length), killAll (H k') (pend fs listed) ++ [.rows c]) := by
          obtain ⟨dst0, g0, op0⟩ := ai0
          simp only at hgd0
          subst hgd0
          simp only [stepI]
          refine hev Ed (fun t ht => ?_) _
          by_cases hex : ∃ j, j < N ∧ dstAt ais j = some t
          · obtain ⟨j, hj, e⟩ := hex
            rw [I.val j t (hanc j (htmp t ht j hj e).2) e, (look N (Nat.le_refl _) t).2 j hj e]
          · rw [I.old t fun j hd e => hex ⟨j, dlt j t e, e⟩, (look N (Nat.le_refl _) t).1 fun j hj e => hex ⟨j, by omega, e⟩]
        have hHs : (H k')[s]? = some (Ob.rows c) := by
          rcases hslot k' I.le with h | h
          · exfalso
            simp only [offD, Bool.or_eq_true, List.any_eq_true, Bool.and_eq_true, decide_eq_true_eq, List.mem_range] at h
            rcases h with ⟨j, hj, hlj, hkj⟩ | ⟨j, hj, ⟨hlj, hkj⟩, hij⟩
            · have hjd := hanc j hj
              have hjN : j < N := by
                rcases Nat.lt_or_ge j N with h | h
                · exact h
                · unfold doneD at hjd; rw [Array.getD_eq_getD_getElem?, Array.getElem?_eq_none (by rw [I.size]; omega)] at hjd; cases hjd
              have := (I.loud j hjN hlj).1 hjd
              omega
            · exact hback j ((I.loud j hj hlj).2 hkj) (by simpa using hij)
          · rw [hrank k' I.le] at h; exact h
        refine step_ok hΓ hci I.st hstep0 (fun ρ' u w' h1 h2 h3 h4 h5 => ?_)
        have hsm : s < (killAll (H k') (pend fs listed)).length := by rw [killAll_length]; exact hsl
        have hpend : ∀ x, x ∈ pend fs (listed.setIfInBounds i true) ↔ x ∈ pend fs listed ∧ x ≠ s := fun x => by
          rw [pend_sub, mem_pend]
          constructor
          · rintro ⟨f, f1, rfl, f3, f4⟩
            refine ⟨⟨f, f1, rfl, f3⟩, fun e => f4 ?_⟩
            rw [huf f f1 _ hmem (.inr e)]
          · rintro ⟨⟨f, f1, rfl, f3⟩, hne⟩
            refine ⟨f, f1, rfl, f3, fun e => hne ?_⟩
            rw [huf f f1 _ hmem (.inl e)]
        have hset : (killAll (H k') (pend fs listed)).set s (.rows c) = killAll (H k') (pend fs (listed.setIfInBounds i true)) := by
          apply List.ext_getElem?
          intro x
          rw [List.getElem?_set]
          by_cases e : s = x
          · subst e
            have : ¬ s ∈ pend fs (listed.setIfInBounds i true) := fun h => ((hpend s).1 h).2 rfl
            rw [if_pos rfl, if_pos hsm, killAll_at, if_neg (fun h => this h.1), hHs]
          · rw [if_neg e, killAll_at, killAll_at]
            have : x ∈ pend fs (listed.setIfInBounds i true) ↔ x ∈ pend fs listed := by
              rw [hpend]; exact ⟨fun h => h.1, fun h => ⟨h, Ne.symm e⟩⟩
            simp [this]
        have hst' := StR.slot (s := s) I.st (I.poi s hs) hsm h2 h3 h4 h5 hdc
        rw [hset] at hst'
        refine cont _ u w' (by rw [hVi]; exact hst') (fun x hx => ?_) (Nat.le_refl _)
        obtain ⟨hx1, hx2⟩ := (hpend x).1 hx
        have := I.poi x hx1
        unfold Poison at this ⊢
        rw [fillR_ne hx2, h2 x (by rw [killAll_length]; exact plt x hx1)]; exact this
    unfold wpOp
    rw [ho]
    simp only
    split
    · rename_i hw; rw [if_pos hw] at key; exact .inl key
    · rename_i hw; rw [if_neg hw] at key; exact key
theorem StR.deads {env : Env} {hp : List Ob} {a : Act} {w : World} (m : Nat) (h : StR C ρ n env hp a w) : StR C (fun k => if k < hp.length then ρ k else ⟨.bool false, 0⟩) n env (hp ++ List.replicate m .dead) a w := by
  have E : Ext hp.length ρ (fun k => if k < hp.length then ρ k else ⟨.bool false, 0⟩) := fun k hk => by simp [hk]
  have key : ∀ k o, (hp ++ List.replicate m Ob.dead)[k]? = some o → o ≠ .dead → k < hp.length ∧ hp[k]? = some o := by
    intro k o ho hd
    rcases Nat.lt_or_ge k hp.length with hk | hk
    · rw [List.getElem?_append_left hk] at ho; exact ⟨hk, ho⟩
    · rw [List.getElem?_append_right hk, List.getElem?_replicate] at ho
      split at ho
      · simp at ho; exact absurd ho.symm hd
      · cases ho
  refine ⟨by rw [List.length_append]; exact h.env.ext (Nat.le_add_right _ _) E, ⟨fun k o ho => ?_, fun j k b hjk hj hk hb => ?_⟩, h.fr, h.size, h.defers⟩
  · by_cases hd : o = .dead
    · subst hd; trivial
    · obtain ⟨hk, ho'⟩ := key k o ho hd
      rw [List.length_append]
      exact (h.heap.ob k o ho').ext (Nat.le_add_right _ _) E hk
  · obtain ⟨oj, h1, h2⟩ := hj
    obtain ⟨ok, h3, h4⟩ := hk
    obtain ⟨j1, j2⟩ := key j oj h1 h2
    obtain ⟨k1, k2⟩ := key k ok h3 h4
    rw [if_pos j1] at hb
    rw [if_pos k1]
    exact h.heap.ne j k b hjk ⟨oj, j2, h2⟩ ⟨ok, k2, h4⟩ hb
theorem ckFs_get {l : List (AI × Bool × Option Nat)} {env : Env} {hs : List (List Ob)} : ∀ {cf : List (Nat × List Nat)} {cs : List RC} {s : Nat}, ckFs Γ l env hs s cs cf = true → cs.length = cf.length ∧ ∀ j i rs, cf[j]? = some (i, rs) → ∃ c, cs[j]? = some c ∧ ckF1 Γ env c l[i]? = true ∧ ∀ r ∈ rs, (hs.getD r [])[s + j]? = some (Ob.rows c)
  | [], [], _, _ => ⟨rfl, by simp⟩
  | [], _ :: _, _, h => by simp [ckFs] at h
  | _ :: _, [], _, h => by simp [ckFs] at h
  | (i0, rs0) :: cf, c0 :: cs, s, h => by
    simp only [ckFs, Bool.and_eq_true] at h
    obtain ⟨h1, h2, h3⟩ := h
    obtain ⟨h4, h5⟩ := ckFs_get h3
    refine ⟨by simp [h4], fun j i rs hj => ?_⟩
    cases j with
    | zero =>
      simp at hj; obtain ⟨rfl, rfl⟩ := hj
      refine ⟨c0, rfl, h1, ?_⟩
      have : ∀ rs : List Nat, ckSl hs s c0 rs = true → ∀ r ∈ rs, (hs.getD r [])[s]? = some (.rows c0) := by
        intro rs
        induction rs with
        | nil => simp
        | cons r rs ih =>
          intro h r' hr
          simp only [ckSl, Bool.and_eq_true] at h
          rcases List.mem_cons.1 hr with e | e
          · subst e
            have h1 := h.1
            unfold obIs at h1
            split at h1
            · rename_i d hd; rw [hd]; simp at h1; rw [h1]
            · cases h1
          · exact ih h.2 r' e
      simpa using this _ h2
    | succ j =>
      obtain ⟨c, e1, e2, e3⟩ := h5 j i rs (by simpa using hj)
      refine ⟨c, by simpa using e1, e2, fun r hr => ?_⟩
      have := e3 r hr
      rw [show s + (j + 1) = s + 1 + j by omega]; exact this
theorem rowsOf_get : ∀ {cs : List RC} (j : Nat), (rowsOf cs)[j]? = (cs[j]?).map .rows
  | [], j => by simp [rowsOf]
  | c :: cs, 0 => by simp [rowsOf]
  | c :: cs, j + 1 => by simpa [rowsOf] using rowsOf_get (cs := cs) j
theorem rowsOf_length : ∀ cs : List RC, (rowsOf cs).length = cs.length
  | [] => rfl
  | c :: cs => by simp [rowsOf, rowsOf_length cs]
theorem Static.turn {N : Nat} {os : List Oper} {ais ais2 : List AI} {ld : List Bool} {anc : List (List Nat)} {ck : List (Nat × List Nat)} (S : Static N os ais ld anc ck) (hl : ais2.length = ais.length)
    (h : ∀ (i : Nat) (a : AI), ais2[i]? = some a → ∃ a1, ais[i]? = some a1 ∧ a1.dst = a.dst ∧ opKind a1.op = opKind a.op ∧ aiT a1 = aiT a) : Static N os ais2 ld anc ck := by
  have hd : ∀ i, dstAt ais2 i = dstAt ais i := by
    intro i
    unfold dstAt
    cases e : ais2[i]? with
    | none =>
      have : ais[i]? = none := by rw [List.getElem?_eq_none_iff] at e ⊢; omega
      rw [this]
    | some a =>
      obtain ⟨a1, h1, h2, _⟩ := h i a e
      rw [h1]; exact h2.symm
  refine ⟨by rw [hl]; exact S.len, S.llen, S.edge, fun i a hi => ?_, S.loud, fun i j d h1 h2 h3 => ?_, fun i a hi t ht j hj e => ?_, fun i a hi hk => ?_⟩
  · obtain ⟨a1, h1, h2, h3, h4⟩ := h i a hi
    rw [← h3]; exact S.kind i a1 h1
  · rw [hd] at h3 ⊢; exact S.dst i j d h1 h2 h3
  · obtain ⟨a1, h1, h2, h3, h4⟩ := h i a hi
    rw [hd] at e
    exact S.tmp i a1 h1 t (by rw [h4]; exact ht) j hj e
  · obtain ⟨a1, h1, h2, h3, h4⟩ := h i a hi
    obtain ⟨r1, r2⟩ := S.read i a1 h1 (by rw [h3]; exact hk)
    refine ⟨r1, fun hc t ht j hj hij => ?_⟩
    rw [hd]
    exact r2 hc t (by rw [h4]; exact ht) j hj hij
theorem drawG_ok {K : Nat} {id : Nat} {ops : Array Oper} {ais : List AI} {L : List (AI × Bool × Option Nat)} {anc : List (List Nat)} {ld : List Bool} {ck cf : List (Nat × List Nat)} {ac : AC} {st st' : St} {ex : Ex} {ρ : Nat → RV} {a : Act} {w : World} (hΓ : ∀ f, Sound C.P f (Γ f)) (hm : C.P.follows .mixedOrders = true) (hL : L.map (·.1) = ais)
    (hi : ∀ (i : Nat) (o : Oper), ops[i]? = some o → ∃ ai, ais[i]? = some ai ∧ ∃ ai0, cInstr C.P n ops o = some ai0 ∧ ai0.dst = ai.dst ∧ (∀ (env : Env) (hp hp1 : List Ob) (v : AV), stepI Γ env hp ai = some (v, hp1) → stepI Γ env hp ai0 = some (v, hp1)) ∧ (isF ai.op = true → ai0 = ai)) (hc : drawG ops.toList ais L anc ld ck cf = some ac)
    (hst : StR C ρ n st.env st.hp a w) (h : evC Γ K ac st = some (ex, st')) : (Code.region id ops true).wp C.P (QR C n ex st') a w := by
  unfold drawG at hc
  split at hc
  · rename_i hok
    obtain ⟨hok, hld, hokF⟩ := hok
    simp at hc; subst hc
    have S0 := static_of hok
    have hN : ops.toList.length = ops.size := by simp
    rw [hN] at S0 hokF
    simp only [evC] at h
    unfold normC at h
    split at h
    · simp at h
    · rename_i st1 hs1
      simp at h; obtain ⟨rfl, rfl⟩ := h
      unfold secF at hs1
      split at hs1
      · simp at hs1
      · rename_i cs hcs
        unfold finD at hs1
        split at hs1
        · simp at hs1
        · rename_i envN hpN hsN hev0
          unfold finF at hev0
          split at hev0
          · simp at hev0
          · rename_i envN' hpN' hsN' hev
            split at hev0
            · rename_i hckF
              simp at hev0
              obtain ⟨rfl, rfl, rfl⟩ := hev0
              split at hs1
              · rename_i hck
                simp at hs1; subst hs1
                generalize hn0 : st.hp.length = n0 at hev hck hckF
                obtain ⟨hlen, hcsf⟩ := ckFs_get hckF
                -- the replaced list
                have rep2 : ∀ x : AI × Bool × Option Nat, (repl1 n0 x).2 = (repl1 0 x).2 := fun x => by obtain ⟨ai, b, m⟩ := x; cases m <;> rfl
                have hmap : (L.map (repl1 n0)).map (·.2) = ld := by
                  rw [← hld, List.map_map, List.map_map]
                  exact List.map_congr_left fun x _ => rep2 x
                have g2 : ∀ i, ((L.map (repl1 n0)).map (·.1))[i]? = (L[i]?).map fun x => (repl1 n0 x).1 := fun i => by rw [List.map_map, List.getElem?_map]; rfl
                have S : Static ops.size ops.toList ((L.map (repl1 n0)).map (·.1)) ld anc ck := by
                  refine S0.turn (by simp) fun i x hx => ?_
                  rw [g2] at hx
                  obtain ⟨y, hy, rfl⟩ := Option.map_eq_some_iff.1 hx
                  refine ⟨(repl1 0 y).1, by simp [hy], ?_⟩
                  obtain ⟨ai, b, m⟩ := y
                  cases m <;> exact ⟨rfl, rfl, rfl⟩
                have hLlen : L.length = ops.size := by have := S.len; simpa using this
                obtain ⟨E, H, V, e1, e2, e3, e4, e5, e6⟩ := trace_of _ _ _ _ _ _ _ hev (fun p hp hb => by
                  obtain ⟨i, hi'⟩ := List.getElem?_of_mem hp
                  intro e
                  have h1 : ((L.map (repl1 n0)).map (·.1))[i]? = some p.1 := by rw [List.getElem?_map, hi']; rfl
                  have h2 : ld[i]? = some p.2 := by rw [← hmap, List.getElem?_map, hi']; rfl
                  have := (S.kind i p.1 h1).2 e
                  simp [List.getD, h2, hb] at this) ⟨[], rfl⟩
                have hzl : (L.map (repl1 n0)).length = ops.size := by simp [hLlen]
                rw [hzl] at e3 e4 e6
                rw [hmap] at e6
                subst e3 e4
                refine wp_region_any hm ?_
                simp only [okF, Bool.and_eq_true, List.all_eq_true, List.mem_range] at hokF
                obtain ⟨hF1, hF2⟩ := hokF
                -- the new rows
                have hfs : ∀ f, f ∈ (List.range cf.length).map (fun j => ((cf.getD j (0, [])).1, n0 + j, cs.getD j (.ints .u8 []))) → ∃ j i rs c, cf[j]? = some (i, rs) ∧ cs[j]? = some c ∧ f = (i, n0 + j, c) ∧ (∃ ai b, L[i]? = some (ai, b, some j)) := by
                  intro f hf
                  obtain ⟨j, hj, rfl⟩ := List.mem_map.1 hf
                  rw [List.mem_range] at hj
                  have h2 := hF2 j hj
                  unfold okF2 at h2
                  have hcj : cf[j]? = some cf[j] := List.getElem?_eq_getElem hj
                  rw [hcj] at h2
                  obtain ⟨c, hc, _, _⟩ := hcsf j cf[j].1 cf[j].2 hcj
                  refine ⟨j, cf[j].1, cf[j].2, c, hcj, hc, by simp [List.getD, hcj, hc], ?_⟩
                  simp only at h2
                  split at h2
                  · rename_i ai b x hx
                    simp at h2; subst h2
                    exact ⟨ai, b, hx⟩
                  · cases h2
                refine draw_anyF (fs := (List.range cf.length).map (fun j => ((cf.getD j (0, [])).1, n0 + j, cs.getD j (.ints .u8 [])))) (hs := hsN') (anc := anc) (ck := ck) (V := V) hΓ rfl (fun i o ho => ?_) (fun f hf => ?_) (fun f hf g hg hfg => ?_) S (fun i ai hai => ?_) (fun k hk => ?_) (fun c hc ai hai => ?_) ops.size _ a _ 0 (fun k => if k < st.hp.length then ρ k else ⟨.bool false, 0⟩) st.env ?_ ?_
                · obtain ⟨ai, hai, ai0, hci, hd0, href, hisF⟩ := hi i o ho
                  have hiN : i < ops.size := (Array.getElem?_eq_some_iff.1 ho).1
                  obtain ⟨b, m, hLi⟩ : ∃ b m, L[i]? = some (ai, b, m) := by
                    rw [← hL, List.getElem?_map] at hai
                    obtain ⟨⟨x, b, m⟩, hx, rfl⟩ := Option.map_eq_some_iff.1 hai
                    exact ⟨b, m, hx⟩
                  have hf1 := hF1 i hiN
                  rw [hLi] at hf1
                  cases m with
                  | none =>
                    refine ⟨ai, by rw [g2, hLi]; rfl, ai0, hci, hd0, .inl ⟨fun f hf e => ?_, ?_, href⟩⟩
                    · obtain ⟨j, i', rs, c, _, _, rfl, ⟨ai', b', hx⟩⟩ := hfs f hf
                      simp only at e; subst e
                      rw [hLi] at hx; simp at hx
                    · simp only [okF1, Bool.or_eq_true, List.all_eq_true] at hf1
                      rcases hf1 with h | h
                      · exact .inl h
                      · refine .inr fun f hf => ?_
                        obtain ⟨j, i', rs, c, hcf, _, rfl, _⟩ := hfs f hf
                        simpa using h (i', rs) (List.mem_of_getElem? hcf)
                  | some j =>
                    simp only [okF1, Bool.and_eq_true, beq_iff_eq, List.all_eq_true, List.mem_range, Bool.or_eq_true, Bool.not_eq_true', beq_eq_false_iff_ne, decide_eq_true_eq] at hf1
                    obtain ⟨⟨⟨⟨hg, hF⟩, hdst⟩, htmp⟩, hcj⟩ := hf1
                    obtain rfl := hisF hF
                    split at hcj
                    · rename_i c1 hc1
                      obtain ⟨i1, rs⟩ := c1
                      simp only [Bool.and_eq_true, beq_iff_eq, List.all_eq_true, List.mem_range, Bool.or_eq_true] at hcj
                      obtain ⟨rfl, hrk⟩ := hcj
                      obtain ⟨c, hcs', hck1, hsl⟩ := hcsf j i1 rs hc1
                      refine ⟨⟨ai0.dst, none, .mv (.const (.one (.row (n0 + j))))⟩, by rw [g2, hLi]; rfl, ai0, hci, rfl, .inr ⟨n0 + j, c, ?_, rfl, rfl, hg, fun Ed hEd M => ?_, fun t ht x hx e => ?_, fun k hk => ?_⟩⟩
                      · refine List.mem_map.2 ⟨j, List.mem_range.2 (List.getElem?_eq_some_iff.1 hc1).1, ?_⟩
                        simp [List.getD, hc1, hcs']
                      · refine F_op hF ?_ M
                        rw [hLi] at hck1
                        simp only [ckF1] at hck1
                        rw [evOp_congr hEd]
                        unfold rcIs at hck1
                        split at hck1
                        · rename_i d hd; rw [hd]; simp at hck1; rw [hck1]
                        · cases hck1
                      · have e' : dstAt ais x = some t := by
                          rw [← e]
                          unfold dstAt
                          rw [g2, ← hL, List.getElem?_map]
                          cases hx2 : L[x]? with
                          | none => rfl
                          | some y => obtain ⟨y1, y2, y3⟩ := y; cases y3 <;> rfl
                        rcases htmp t ht x hx with h | h
                        · exact absurd e' h
                        · exact ⟨h.1, by simpa using h.2⟩
                      · rcases hrk k (by omega) with h | h
                        · exact .inl h
                        · exact .inr (hsl _ (by simpa using h))
                    · cases hcj
                · obtain ⟨j, i', rs, c, _, _, rfl, ⟨ai', b', hx⟩⟩ := hfs f hf
                  have := (List.getElem?_eq_some_iff.1 hx).1
                  simp only; omega
                · obtain ⟨j, i', rs, c, h1, h2, rfl, ⟨ai', b', hx⟩⟩ := hfs f hf
                  obtain ⟨j2, i2, rs2, c2, h3, h4, rfl, ⟨ai2, b2, hx2⟩⟩ := hfs g hg
                  have ej : j = j2 := by
                    rcases hfg with e | e
                    · simp only at e; subst e
                      rw [hx] at hx2; simp at hx2; exact hx2.2.2
                    · simp only at e; omega
                  subst ej
                  rw [h1] at h3; rw [h2] at h4
                  simp at h3 h4
                  rw [h3.1, h4]
                · have : (L.map (repl1 n0))[i]? = some (ai, ld.getD i false) := by
                    rw [List.getElem?_map] at hai
                    obtain ⟨p, hp, rfl⟩ := Option.map_eq_some_iff.1 hai
                    rw [hp]
                    have h2 : ld[i]? = some p.2 := by rw [← hmap, List.getElem?_map, hp]; rfl
                    simp [List.getD, h2]
                  exact e5 i _ this
                · have := e6 k hk
                  simp at this
                  simp [List.getD, this]
                · have := ckAll_mem hck c hc
                  rw [List.getElem?_map] at hai
                  obtain ⟨p, hp, rfl⟩ := Option.map_eq_some_iff.1 hai
                  rw [hp] at this
                  obtain ⟨⟨dst, g, op⟩, bb⟩ := p
                  cases dst with
                  | none => cases this
                  | some d => exact ⟨d, rfl, fun r hr => ckKs_mem this r hr⟩
                · exact Nat.le_trans (List.length_filter_le _ _) (by simp)
                · have hno : ∀ j, ¬ doneD (Array.replicate ops.size false) j := by
                    intro j h
                    unfold doneD at h
                    rw [Array.getD_eq_getD_getElem?, Array.getElem?_replicate] at h
                    split at h <;> simp at h
                  have hpend : ∀ s, s ∈ pend ((List.range cf.length).map (fun j => ((cf.getD j (0, [])).1, n0 + j, cs.getD j (.ints .u8 [])))) (Array.replicate ops.size false) ↔ n0 ≤ s ∧ s < n0 + cs.length := by
                    intro s
                    rw [mem_pend]
                    constructor
                    · rintro ⟨f, hf, rfl, _⟩
                      obtain ⟨j, i', rs, c, h1, h2, rfl, _⟩ := hfs f hf
                      have := (List.getElem?_eq_some_iff.1 h2).1
                      simp only; omega
                    · rintro ⟨h1, h2⟩
                      exact ⟨_, List.mem_map.2 ⟨s - n0, List.mem_range.2 (by omega), rfl⟩, by simp only; omega, hno _⟩
                  have hmask : killAll (st.hp ++ rowsOf cs) (pend ((List.range cf.length).map (fun j => ((cf.getD j (0, [])).1, n0 + j, cs.getD j (.ints .u8 [])))) (Array.replicate ops.size false)) = st.hp ++ List.replicate cs.length .dead := by
                    apply List.ext_getElem?
                    intro x
                    rw [killAll_at]
                    rw [List.length_append, rowsOf_length]
                    by_cases hx : x < n0
                    · have : ¬ x ∈ pend ((List.range cf.length).map (fun j => ((cf.getD j (0, [])).1, n0 + j, cs.getD j (.ints .u8 [])))) (Array.replicate ops.size false) := fun h => by have := (hpend x).1 h; omega
                      rw [if_neg (fun h => this h.1), List.getElem?_append_left (by omega), List.getElem?_append_left (by omega)]
                    · by_cases hx2 : x < n0 + cs.length
                      · rw [if_pos ⟨(hpend x).2 ⟨by omega, hx2⟩, by omega⟩, List.getElem?_append_right (by omega), List.getElem?_replicate, if_pos (by omega)]
                      · rw [if_neg (fun h => by omega), List.getElem?_eq_none (by rw [List.length_append, rowsOf_length]; omega), List.getElem?_eq_none (by simp; omega)]
                  have hst0 := hst.deads cs.length
                  refine ⟨by simp, Nat.zero_le _, fun i o ho hd => absurd hd (hno i), fun j hj e => ⟨fun h => absurd h (hno j), fun h => by omega⟩, fun j d hd => absurd hd (hno j), fun t _ => by rw [e1], ?_, fun s hs => ?_, fun f hf => ?_⟩
                  · rw [e2, hmask]
                    exact ⟨hst0.env, hst0.heap.drew, hst0.fr.drew, hst0.size, hst0.defers⟩
                  · have := (hpend s).1 hs
                    unfold Poison
                    simp only
                    rw [if_neg (by omega)]
                  · obtain ⟨j, i', rs, c, h1, h2, rfl, _⟩ := hfs f hf
                    have := (List.getElem?_eq_some_iff.1 h2).1
                    rw [e2, List.length_append, rowsOf_length]
                    simp only; omega
              · simp at hs1
            · simp at hev0
  · simp at hc
theorem markF_fst : ∀ (ais : List AI) (fl : List Bool) (j : Nat), fl.length = ais.length → (markF j ais fl).map (·.1) = ais
  | [], fl, j, h => by cases fl <;> simp [markF]
  | a :: ais, [], j, h => by simp at h
  | a :: ais, true :: fl, j, h => by simp only [markF, List.map_cons]; rw [markF_fst ais fl (j + 1) (by simpa using h)]
  | a :: ais, false :: fl, j, h => by simp only [markF, List.map_cons]; rw [markF_fst ais fl j (by simpa using h)]
theorem drawF_ok {K : Nat} {id : Nat} {ops : Array Oper} {ais : List AI} {ac : AC} {st st' : St} {ex : Ex} {ρ : Nat → RV} {a : Act} {w : World} (hΓ : ∀ f, Sound C.P f (Γ f)) (hm : C.P.follows .mixedOrders = true)
    (hi : ∀ (i : Nat) (o : Oper), ops[i]? = some o → ∃ ai, ais[i]? = some ai ∧ ∃ ai0, cInstr C.P n ops o = some ai0 ∧ ai0.dst = ai.dst ∧ (∀ (env : Env) (hp hp1 : List Ob) (v : AV), stepI Γ env hp ai = some (v, hp1) → stepI Γ env hp ai0 = some (v, hp1)) ∧ (isF ai.op = true → ai0 = ai)) (hc : drawF ops.toList ais = some ac)
    (hst : StR C ρ n st.env st.hp a w) (h : evC Γ K ac st = some (ex, st')) : (Code.region id ops true).wp C.P (QR C n ex st') a w := by
  unfold drawF drawF1 at hc
  exact drawG_ok hΓ hm (markF_fst _ _ _ (by simp)) hi hc hst h
theorem drawB_ok {K : Nat} {id : Nat} {ops : Array Oper} {ais : List AI} {st st' : St} {ex : Ex} {ρ : Nat → RV} {a : Act} {w : World} (hΓ : ∀ f, Sound C.P f (Γ f)) (hm : C.P.follows .mixedOrders = true) (hi : cInstrs C.P n ops ops.toList = some ais)
    (hb : ¬ ∃ r, evC Γ K badC st = some r) (hst : StR C ρ n st.env st.hp a w) (h : evC Γ K (drawB ops.toList ais) st = some (ex, st')) : (Code.region id ops true).wp C.P (QR C n ex st') a w := by
  have hget : ∀ (i : Nat) (o : Oper), ops[i]? = some o → ∃ ai, ais[i]? = some ai ∧ cInstr C.P n ops o = some ai := fun i o ho => (instrs_get hi).2 i o (by simpa using ho)
  unfold drawB at h
  split at h
  · rename_i ac hc; exact drawE_ok hΓ hm hi hc hst h
  · split at h
    · rename_i ac hc
      refine drawF_ok hΓ hm (fun i o ho => ?_) hc hst h
      obtain ⟨ai, h1, h2⟩ := hget i o ho
      exact ⟨ai, h1, ai, h2, rfl, fun _ _ _ _ h => h, fun _ => rfl⟩
    · split at h
      · rename_i ac hc
        refine drawF_ok hΓ hm (fun i o ho => ?_) hc hst h
        obtain ⟨ai, h1, h2⟩ := hget i o ho
        refine ⟨toP ai, by rw [List.getElem?_map, h1]; rfl, ai, h2, (toP_dst ai).symm, fun _ _ _ _ h => toP_step h, fun h => ?_⟩
        obtain ⟨d, g, op⟩ := ai
        cases op <;> first | rfl | (simp [toP, isF] at h)
      · exact absurd ⟨_, h⟩ hb
end
end Go.X
set_option linter.unusedVariables false
namespace Go.X
section
variable {C : Cx} {ρ ρ' : Nat → RV} {hp hp1 : List Ob} {w w' : World} {o : Oper} {a : Act} {env : Env} {Γ : Nat → Callee} {n : Nat}
theorem getT_ren (f : Nat → Option Nat) (t : Nat) : ∀ e : Env, getT t (Env.ren f e) = (getT t e).ren f
  | [] => rfl
  | (k, v) :: e => by
    simp only [Env.ren, getT]
    split
    · rfl
    · exact getT_ren f t e
theorem getT_keep (env : Env) (t : Nat) : ∀ l : List Nat, getT t (keep env l) = getT t env ∨ getT t (keep env l) = .one .undef
  | [] => .inr rfl
  | k :: l => by
    simp only [keep, getT]
    split
    · rename_i e; subst e; exact .inl rfl
    · exact getT_keep env t l
theorem StR.tidy {rts : List SV} (h : StR C ρ n env hp a w) : ∃ ρ', StR C ρ' n (tidy env rts hp).env (tidy env rts hp).hp a w := by
  have hf : Fine hp (reachL hp 64 (rts ++ envCells env) []) := reachL_fine hp 64 _ [] (Fine.nil hp)
  unfold Go.X.tidy
  generalize reachL hp 64 (rts ++ envCells env) [] = ks at hf
  refine ⟨rho ρ ks, fun t => ?_, h.heap.pick hf, h.fr, h.size, h.defers⟩
  simp only [tidyKs, pick_length]
  rw [getT_ren]
  exact AVR.ren turn_pos (h.env t)
theorem StR.keep {live : List Nat} (h : StR C ρ n env hp a w) : StR C ρ n (keep env live) hp a w := by
  refine ⟨fun t => ?_, h.heap, h.fr, h.size, h.defers⟩
  rcases getT_keep env t live with e | e
  · rw [e]; exact h.env t
  · rw [e]; exact .one _ _ (.undef _)
theorem StR.head {live : List Nat} {st : St} (h : StR C ρ n st.env st.hp a w) : ∃ ρ', StR C ρ' n (st.head live).env (st.head live).hp a w := h.keep.tidy
theorem bool_of {x : AO} {X : Operand} {t : TypeId} {b : Bool} (hx : cOp C.P t X = some x) (he : EnvR C hp.length ρ env a) (h : getO env x = .one (.bool b)) : a.eval X = .bool b := by
  have h1 := cOp_ok hx he
  rw [h] at h1
  generalize a.eval X = v at h1
  cases h1 with | one _ _ h => cases h; rfl
theorem bad_none {K : Nat} {st : St} {r : Ex × St} : ¬ evC Γ K badC st = some r := by
  intro h
  obtain ⟨env, rts, hp⟩ := st
  simp [badC, evC, evIs, evOp, thenI, normC] at h
theorem code_ok {K : Nat} (hΓ : ∀ f, Sound C.P f (Γ f)) (hm : C.P.follows .mixedOrders = true) : ∀ (c : Code) (l : List Nat) (xs : List (Nat × List Nat)) (r : List Nat) (ac : AC) (st : St) (ex : Ex) (st' : St) (ρ : Nat → RV) (a : Act) (w : World),
    cCode C.P n c l xs r = some ac → evC Γ K ac st = some (ex, st') → StR C ρ n st.env st.hp a w → c.wp C.P (QR C n ex st') a w
  | .skip, l, xs, r, ac, st, ex, st', ρ, a, w, hc, h, hst => by
    simp [cCode] at hc; subst hc
    simp [evC] at h; obtain ⟨rfl, rfl⟩ := h
    exact wp_skip ⟨rfl, ρ, hst⟩
  | .region id ops d, l, xs, r, ac, st, ex, st', ρ, a, w, hc, h, hst => by
    simp only [cCode] at hc
    obtain ⟨ais, hi, hc2⟩ := map_some hc
    clear hc
    split at hc2
    · rename_i hd; subst hd
      subst hc2
      exact drawB_ok hΓ hm hi (fun ⟨_, h⟩ => bad_none h) hst h
    · rename_i hd
      have : d = false := by simpa using hd
      subst this
      subst hc2
      simp only [evC] at h
      unfold normC at h
      split at h
      · simp at h
      · rename_i st1 hs
        simp at h; obtain ⟨rfl, rfl⟩ := h
        obtain ⟨env, rts, hp⟩ := st
        refine wp_region ?_
        have := ops_ok (rts := rts) hΓ ops.toList 0 ais ρ env hp a w (by simp) hi hst hs
        simpa [List.range_eq_range'] using this
  | .seq x y, l, xs, r, ac, st, ex, st', ρ, a, w, hc, h, hst => by
    simp only [cCode] at hc
    obtain ⟨⟨ax, ay⟩, hb, rfl⟩ := map_some hc
    obtain ⟨hx, hy⟩ := both_ok hb
    simp only [evC] at h
    unfold thenC at h
    split at h
    · simp at h
    · rename_i st1 h1
      refine wp_seq (wp_mono (code_ok hΓ hm x _ _ _ _ _ _ _ ρ a w hx h1 hst) fun e a1 w1 q => ?_)
      cases e <;> simp only [QR] at q <;> try exact q.elim
      · obtain ⟨_, ρ1, hst1⟩ := q
        exact code_ok hΓ hm y _ _ _ _ _ _ _ ρ1 a1 w1 hy h hst1
      · exact absurd q.1 (by simp)
      · exact absurd q.1 (by simp)
    · rename_i i st1 h1
      simp at h; obtain ⟨rfl, rfl⟩ := h
      refine wp_seq (wp_mono (code_ok hΓ hm x _ _ _ _ _ _ _ ρ a w hx h1 hst) fun e a1 w1 q => ?_)
      cases e <;> simp only [QR] at q <;> try exact q.elim
      · exact absurd q.1 (by simp)
      · first | exact ⟨rfl, q.2⟩ | exact ⟨q.1, q.2⟩
      · exact absurd q.1 (by simp)
    · rename_i st1 h1
      simp at h; obtain ⟨rfl, rfl⟩ := h
      refine wp_seq (wp_mono (code_ok hΓ hm x _ _ _ _ _ _ _ ρ a w hx h1 hst) fun e a1 w1 q => ?_)
      cases e <;> simp only [QR] at q <;> try exact q.elim
      · exact absurd q.1 (by simp)
      · exact absurd q.1 (by simp)
      · first | exact ⟨rfl, q.2⟩ | exact ⟨q.1, q.2⟩
  | .cond c x y, l, xs, r, ac, st, ex, st', ρ, a, w, hc, h, hst => by
    simp only [cCode] at hc
    obtain ⟨co, hco, hc⟩ := bind_some hc
    obtain ⟨⟨ax, ay⟩, hb, rfl⟩ := map_some hc
    obtain ⟨hx, hy⟩ := both_ok hb
    simp only [evC] at h
    unfold branchC at h
    split at h
    · rename_i t ht
      refine wp_cond (bool_of hco hst.env ht) ?_
      cases t
      · simp only [Bool.false_eq_true, if_false] at h ⊢
        exact code_ok hΓ hm y _ _ _ _ _ _ _ ρ a w hy h hst
      · simp only [if_true] at h ⊢
        exact code_ok hΓ hm x _ _ _ _ _ _ _ ρ a w hx h hst
    · simp at h
  | .block id x, l, xs, r, ac, st, ex, st', ρ, a, w, hc, h, hst => by
    simp only [cCode] at hc
    obtain ⟨ax, hx, rfl⟩ := map_some hc
    simp only [evC] at h
    unfold blockC at h
    split at h
    · simp at h
    · rename_i st1 h1
      simp at h; obtain ⟨rfl, rfl⟩ := h
      refine wp_block (wp_mono (code_ok hΓ hm x _ _ _ _ _ _ _ ρ a w hx h1 hst) fun e a1 w1 q => ?_)
      cases e <;> simp only [QR] at q <;> try exact q.elim
      · first | exact ⟨rfl, q.2⟩ | exact ⟨q.1, q.2⟩
      · exact absurd q.1 (by simp)
      · exact absurd q.1 (by simp)
    · rename_i i st1 h1
      refine wp_block (wp_mono (code_ok hΓ hm x _ _ _ _ _ _ _ ρ a w hx h1 hst) fun e a1 w1 q => ?_)
      cases e <;> simp only [QR] at q <;> try exact q.elim
      · exact absurd q.1 (by simp)
      · rename_i i'
        obtain ⟨e, ρ1, q⟩ := q
        simp at e; subst e
        simp only [Exit.inBlock]
        split at h
        · rename_i hid; simp at h; obtain ⟨rfl, rfl⟩ := h
          rw [if_pos hid.symm]; exact ⟨rfl, ρ1, q⟩
        · rename_i hid; simp at h; obtain ⟨rfl, rfl⟩ := h
          rw [if_neg (Ne.symm hid)]; exact ⟨rfl, ρ1, q⟩
      · exact absurd q.1 (by simp)
    · rename_i st1 h1
      simp at h; obtain ⟨rfl, rfl⟩ := h
      refine wp_block (wp_mono (code_ok hΓ hm x _ _ _ _ _ _ _ ρ a w hx h1 hst) fun e a1 w1 q => ?_)
      cases e <;> simp only [QR] at q <;> try exact q.elim
      · exact absurd q.1 (by simp)
      · exact absurd q.1 (by simp)
      · first | exact ⟨rfl, q.2⟩ | exact ⟨q.1, q.2⟩
  | .loop x, l, xs, r, ac, st, ex, st', ρ, a, w, hc, h, hst => by
    simp only [cCode] at hc
    obtain ⟨ax, hx, rfl⟩ := map_some hc
    simp only [evC] at h
    generalize sortN (liveC (.loop x) [] xs r) = live at h
    refine wp_loop_ghost (fun k a w => ∃ ρ st, StR C ρ n st.env st.hp a w ∧ loopN (evC Γ K ax) live k st = some (ex, st')) K ⟨ρ, st, hst, h⟩ ?_
    rintro k a1 w1 ⟨ρ1, st1, hst1, h1⟩
    cases k with
    | zero => simp [loopN] at h1
    | succ k =>
      simp only [loopN] at h1
      obtain ⟨ρ2, hst2⟩ := hst1.head (live := live)
      unfold thenC at h1
      split at h1
      · simp at h1
      · rename_i st2 h2
        refine wp_mono (code_ok hΓ hm x _ _ _ _ _ _ _ ρ2 a1 w1 hx h2 hst2) fun e a3 w3 q => ?_
        cases e <;> simp only [QR] at q <;> try exact q.elim
        · obtain ⟨_, ρ3, q⟩ := q
          exact ⟨k, Nat.lt_succ_self _, ρ3, st2, q, h1⟩
        · exact absurd q.1 (by simp)
        · exact absurd q.1 (by simp)
      · rename_i i st2 h2
        simp at h1; obtain ⟨rfl, rfl⟩ := h1
        refine wp_mono (code_ok hΓ hm x _ _ _ _ _ _ _ ρ2 a1 w1 hx h2 hst2) fun e a3 w3 q => ?_
        cases e <;> simp only [QR] at q <;> try exact q.elim
        · exact absurd q.1 (by simp)
        · first | exact ⟨rfl, q.2⟩ | exact ⟨q.1, q.2⟩
        · exact absurd q.1 (by simp)
      · rename_i st2 h2
        simp at h1; obtain ⟨rfl, rfl⟩ := h1
        refine wp_mono (code_ok hΓ hm x _ _ _ _ _ _ _ ρ2 a1 w1 hx h2 hst2) fun e a3 w3 q => ?_
        cases e <;> simp only [QR] at q <;> try exact q.elim
        · exact absurd q.1 (by simp)
        · exact absurd q.1 (by simp)
        · first | exact ⟨rfl, q.2⟩ | exact ⟨q.1, q.2⟩
  | .exit id, l, xs, r, ac, st, ex, st', ρ, a, w, hc, h, hst => by
    simp [cCode] at hc; subst hc
    simp [evC] at h; obtain ⟨rfl, rfl⟩ := h
    exact wp_exit ⟨rfl, ρ, hst⟩
  | .scope x, l, xs, r, ac, st, ex, st', ρ, a, w, hc, h, hst => by
    simp only [cCode] at hc
    obtain ⟨ax, hx, rfl⟩ := map_some hc
    simp only [evC] at h
    refine wp_scope_straight (wp_mono (code_ok hΓ hm x _ _ _ _ _ _ _ ρ a w hx h hst) fun e a1 w1 q => ?_)
    cases e <;> simp only [QR] at q <;> first | exact ⟨q.1, q.2⟩ | exact q.elim
  | .ret, l, xs, r, ac, st, ex, st', ρ, a, w, hc, h, hst => by
    simp [cCode] at hc; subst hc
    simp [evC] at h; obtain ⟨rfl, rfl⟩ := h
    exact wp_ret ⟨rfl, ρ, hst⟩
  | .rangeFunc _ _ _ _, _, _, _, _, _, _, _, _, _, _, hc, h, _ => by simp [cCode] at hc; subst hc; exact absurd h bad_none
  | .label _, _, _, _, _, _, _, _, _, _, _, hc, h, _ => by simp [cCode] at hc; subst hc; exact absurd h bad_none
  | .goto _, _, _, _, _, _, _, _, _, _, _, hc, h, _ => by simp [cCode] at hc; subst hc; exact absurd h bad_none
  | .refuse _, _, _, _, _, _, _, _, _, _, _, hc, h, _ => by simp [cCode] at hc; subst hc; exact absurd h bad_none
end
end Go.X
set_option linter.unusedVariables false
namespace Go.X
section
variable {C : Cx} {ρ ρ' : Nat → RV} {hp hp1 : List Ob} {w w' : World} {o : Oper} {a : Act} {env : Env} {Γ : Nat → Callee} {n : Nat}
def resS (tmps : Array Value) : ResultVar → Sem Value
  | .tmp t => pure (tmps.getD t undef)
  | .cell a t => do loadVar t (← asAddr (tmps.getD a undef))
theorem res_one {rv : ResultVar} {r : Nat × Option (Option Nat)} {v : AV} (hc : cRes C.P rv = some r) (hst : StR C ρ n env hp a w) (h : resOf env hp r = some v) : ∃ u, (resS a.tmps rv).run C.P w = .ok u w ∧ AVR C hp.length ρ v u := by
  cases rv with
  | tmp t =>
    simp [cRes] at hc; subst hc
    simp [resOf] at h; subst h
    exact ⟨_, rfl, hst.env t⟩
  | cell t ty =>
    simp only [cRes] at hc
    obtain ⟨b, hb, hc⟩ := bind_some hc
    have h1 := hst.env t
    split at hc
    · rename_i hb'; subst hb'
      obtain ⟨m, hm, rfl⟩ := map_some hc
      simp only [resOf] at h
      cases hl : loadN hp m (getT t env).sv with
      | none => simp [hl, aggAV] at h
      | some s =>
        simp [hl, aggAV] at h; subst h
        obtain ⟨_, h2⟩ := h1.sv_of (by intro e; rw [e] at hl; simp [loadN] at hl)
        obtain ⟨ad, vs, e, hlen, hcell, hv⟩ := loadN_ok h2 hst.heap hst.fr hl
        have hr := run_loadCells_list (P := C.P) w ad vs hcell
        rw [hlen] at hr
        refine ⟨.agg vs.toArray, ?_, .agg _ _ hv⟩
        simp only [resS, e]
        simp [asAddr, loadVar, run_isAgg w hb, run_sizeT w hm, hr]
    · rename_i hb'
      have : b = false := by simpa using hb'
      subst this
      simp at hc; subst hc
      simp only [resOf] at h
      cases hl : loadOne hp (getT t env).sv with
      | none => simp [hl, oneAV] at h
      | some s =>
        simp [hl, oneAV] at h; subst h
        obtain ⟨_, h2⟩ := h1.sv_of (by intro e; rw [e] at hl; exact loadOne_undef hl)
        obtain ⟨ad, v, e, hcell, hv⟩ := loadOne_ok h2 hst.heap hst.fr hl
        refine ⟨v, ?_, .one _ _ hv⟩
        simp only [resS, e]
        simp [asAddr, loadVar, run_isAgg w hb, load, Sem.run, hcell]
theorem res_all (hst : StR C ρ n env hp a w) : ∀ {rvs : List ResultVar} {rs : List (Nat × Option (Option Nat))} {l : List AV}, rvs.mapM (cRes C.P) = some rs → resL env hp rs = some l → ∃ us, (rvs.mapM (resS a.tmps)).run C.P w = .ok us w ∧ AVRL C hp.length ρ l us
  | [], rs, l, hc, h => by
    simp at hc; subst hc
    simp [resL] at h; subst h
    exact ⟨[], by simp, .nil⟩
  | rv :: rvs, rs, l, hc, h => by
    simp only [List.mapM_cons, Option.pure_def, Option.bind_eq_bind, Option.bind_eq_some_iff] at hc
    obtain ⟨r, hr, rs', hrs, e⟩ := hc
    simp at e; subst e
    simp only [resL, Option.bind_eq_some_iff, Option.map_eq_some_iff] at h
    obtain ⟨v, hv, l', hl, rfl⟩ := h
    obtain ⟨u, h1, h2⟩ := res_one hr hst hv
    obtain ⟨us, h3, h4⟩ := res_all hst hrs hl
    refine ⟨u :: us, ?_, .cons _ _ _ _ h2 h4⟩
    simp [List.mapM_cons, h1, h3]
theorem results_eq (fn : Func) (tmps : Array Value) : results fn tmps = (do let vs ← fn.results.mapM (resS tmps); pure (if h : vs.size = 1 then vs[0] else .tuple vs)) := by
  unfold results
  congr 1
theorem AVRL.length {l : List AV} {vs : List Value} (h : AVRL C n ρ l vs) : l.length = vs.length := by
  induction l generalizing vs with
  | nil => cases h; rfl
  | cons s l ih => cases h with | cons _ v _ vs h hl => simp [ih hl]
theorem tup_ok {l : List AV} {us : List Value} (h : AVRL C n ρ l us) : AVR C n ρ (tupOf l) (if h : us.toArray.size = 1 then us.toArray[0] else .tuple us.toArray) := by
  cases h with
  | nil => exact .tup _ _ .nil
  | cons s v l vs h hl =>
    cases hl with
    | nil => simpa [tupOf] using h
    | cons s' v' l vs h' hl => simp only [tupOf]; exact .tup _ _ (.cons _ _ _ _ h (.cons _ _ _ _ h' hl))
theorem argEnv_get : ∀ (l : List AV) (k t : Nat), getT t (argEnv k l) = (if t < k then .one .undef else l.getD (t - k) (.one .undef))
  | [], k, t => by simp [argEnv, getT]
  | v :: l, k, t => by
    simp only [argEnv, getT]
    split
    · rename_i e; subst e; simp
    · rename_i e
      rw [argEnv_get l (k + 1) t]
      by_cases h : t < k
      · rw [if_pos h, if_pos (by omega)]
      · rw [if_neg h, if_neg (by omega)]
        obtain ⟨m, rfl⟩ : ∃ m, t = k + (m + 1) := ⟨t - k - 1, by omega⟩
        rw [show k + (m + 1) - (k + 1) = m by omega, show k + (m + 1) - k = m + 1 by omega]
        simp
theorem fn_ok {P : Program} {f : Nat} {af : AF} {K : Nat} (hΓ : ∀ f, Sound P f (Γ f)) (hm : P.follows .mixedOrders = true) (hc : cFunc P f = some af) : Sound P f (evF Γ K af) := by
  intro args hp r hp' h
  unfold cFunc at hc
  obtain ⟨fn, hf, hc⟩ := bind_some hc
  obtain ⟨c, hb, hc⟩ := bind_some hc
  split at hc
  · rename_i hcond
    obtain ⟨hle, hbody⟩ := hcond
    obtain ⟨rs, hrs, hc⟩ := bind_some hc
    obtain ⟨ac, hac, rfl⟩ := map_some hc
    refine ⟨hbody, fun C ρ w rargs hP hw hD hargs hH => ?_⟩
    subst hP
    refine calls_of_wp hf hb ?_
    have hst : StR C ρ fn.ntmps (argEnv 0 args) hp { tmps := rargs.toArray ++ Array.replicate (fn.ntmps - rargs.toArray.size) undef, defers := [] } w := by
      refine ⟨fun t => ?_, hH, FR.start hw, by simp; omega, hD.symm⟩
      rw [argEnv_get]
      simp only [Nat.not_lt_zero, if_false, Nat.sub_zero]
      by_cases ht : t < args.length
      · obtain ⟨v, hv1, hv2⟩ := hargs.get (List.getElem?_eq_getElem ht)
        have hlt : t < rargs.length := (List.getElem?_eq_some_iff.1 hv1).1
        rw [Array.getD_eq_getD_getElem?, Array.getElem?_append_left (by simpa using hlt)]
        rw [List.getElem?_toArray, hv1]
        simp only [List.getD, List.getElem?_eq_getElem ht, Option.getD_some]
        exact hv2
      · rw [List.getD, List.getElem?_eq_none (by omega)]
        exact .one _ _ (.undef _)
    have hev : ∃ ex st, evC Γ K ac ⟨argEnv 0 args, handed (avsCells args), hp⟩ = some (ex, st) ∧ give st.rts st.hp (resL st.env st.hp rs) = some (r, hp') ∧ (ex = .norm ∨ ex = .ret) := by
      simp only [evF] at h
      unfold resC at h
      split at h
      · rename_i st e; exact ⟨_, st, e, h, .inl rfl⟩
      · rename_i st e; exact ⟨_, st, e, h, .inr rfl⟩
      · simp at h
    obtain ⟨ex, st, hev, hg, hex⟩ := hev
    have fin : ∀ (a1 : Act) (w1 : World), (∃ ρ, StR C ρ fn.ntmps st.env st.hp a1 w1) → a1.defers = [] ∧ ∃ v, (results fn a1.tmps).run C.P w1 = .ok v w1 ∧ ∃ ρ' rv, Ending.returned v = .returned rv ∧ AVR C hp'.length ρ' r rv ∧ HR C ρ' hp' w1 ∧ FR C w1 := by
      rintro a1 w1 ⟨ρ1, hs1⟩
      refine ⟨hs1.defers.trans hD, ?_⟩
      unfold give at hg
      split at hg
      · simp at hg
      · rename_i l hl
        obtain ⟨us, h1, h2⟩ := res_all hs1 hrs hl
        have hf : Fine st.hp (reachL st.hp 64 (st.rts ++ avCells (tupOf l)) []) := reachL_fine st.hp 64 _ [] (Fine.nil st.hp)
        generalize reachL st.hp 64 (st.rts ++ avCells (tupOf l)) [] = ks at hg hf
        simp only [giveKs, Option.some.injEq, Prod.mk.injEq] at hg
        obtain ⟨rfl, rfl⟩ := hg
        refine ⟨(if h : us.toArray.size = 1 then us.toArray[0] else .tuple us.toArray), ?_, rho ρ1 ks, _, rfl, ?_, hs1.heap.pick hf, hs1.fr⟩
        · rw [results_eq, Array.mapM_eq_mapM_toList]
          simp [h1]
        · rw [pick_length]; exact AVR.ren turn_pos (tup_ok h2)
    refine wp_mono (code_ok hΓ hm c _ _ _ ac _ ex st ρ _ w hac hev hst) fun e a1 w1 q => ?_
    cases e <;> simp only [QR] at q <;> try exact q.elim
    · exact fin a1 w1 q.2
    · rcases hex with rfl | rfl <;> exact absurd q.1 (by simp)
    · exact fin a1 w1 q.2
  · simp at hc
end
end Go.X
set_option linter.unusedVariables false
namespace Go.X
open Go.RowKit Go.ChangeShapes Go.ChangeAt Go.WideShapes
/-! ### tables of functions -/
def none0 : Nat → Callee := fun _ _ _ => none
def upd (Γ : Nat → Callee) (n : Nat) (F : Callee) : Nat → Callee := fun f => if f = n then F else Γ f
theorem none0_ok (P : Program) : ∀ f, Sound P f (none0 f) := fun f args hp r hp' h => by simp [none0] at h
theorem upd_ok {P : Program} {Γ : Nat → Callee} {n : Nat} {F : Callee} (h : ∀ f, Sound P f (Γ f)) (hF : Sound P n F) : ∀ f, Sound P f (upd Γ n F f) := fun f => by
  unfold upd
  split
  · rename_i e; subst e; exact hF
  · exact h f
theorem upd_at (Γ : Nat → Callee) (n : Nat) (F : Callee) : upd Γ n F n = F := by simp [upd]
theorem upd_ne (Γ : Nat → Callee) {n m : Nat} (F : Callee) (h : m ≠ n) : upd Γ n F m = Γ m := by simp [upd, h]
/-- How often a loop may turn. -/
@[irreducible] def KK : Nat := 100000
theorem KK_eq : KK = 100000 := by unfold KK; rfl
/-! ### a law -/
/-- Nothing is handed over: all that is there stays. -/
def cx0 (P : Program) (w : World) (τ : Nat → Nat) : Cx := ⟨P, w, fun _ => False, τ, fun _ => .nilFunc, []⟩
def rho0 : Nat → RV := fun _ => ⟨.nilFunc, 0⟩
theorem law_of {P : Program} {f : Nat} {F : Callee} {args : List AV} {rargs : List Value} {w : World} {hp' : List Ob} (τ : Nat → Nat) (hS : Sound P f F) (h : F args [] = some (.one (.bool true), hp')) (hv : AVRL (cx0 P w τ) 0 rho0 args rargs) :
    Calls P f rargs.toArray w fun e w' => e = .returned (.bool true) ∧ Below w.heap.size w w' := by
  refine Calls.mono ((hS args [] _ _ h).2 (cx0 P w τ) rho0 w rargs rfl rfl rfl hv ⟨fun k o h => by simp at h, fun j k b _ hj => ?_⟩) ?_
  · obtain ⟨o, ho, _⟩ := hj; simp at ho
  · rintro e w' ⟨ρ', rv, rfl, h1, _, h3⟩
    cases h1 with
    | one _ _ h1 =>
      cases h1
      exact ⟨rfl, h3.os, h3.tape, h3.output, h3.size, fun k hk => h3.block k hk (fun h => h)⟩
section
variable {H : Type} {enc : TypeId × Value → H} {P : Program}
theorem trodAll_below (hl : laidOutB P = true) {W W' : World} (hb : Below W.heap.size W W') : ∀ {ts : List TypeId} {vs : List Value} {ds : List (DataW H)} {ps : List MemPlace}, (ts.all fun t => P.readableRec t && decide (t < P.types.size)) = true →
    DataW.TrodAll enc P W 0 (fun _ => true) true ts vs ds ps → (∀ x ∈ ps, x.block < W.heap.size) → DataW.TrodAll enc P W' 0 (fun b => decide (b < W.heap.size)) true ts vs ds ps
  | [], vs, ds, ps, _, h, _ => by
    obtain ⟨rfl, rfl, rfl⟩ := trodAll_nil h
    exact trodAll_mk0
  | t :: ts, vs, ds, ps, hr, h, hlt => by
    simp only [List.all_cons, Bool.and_eq_true, decide_eq_true_eq] at hr
    obtain ⟨v, vs', d, ds', p, q, rfl, rfl, rfl, h0, r0⟩ := trodAll_cons h
    exact trodAll_cons_mk (Below.trod hl hr.1.1 hr.1.2 h0 hb fun x hx => hlt x (by simp [hx])) (trodAll_below hl hb (by simpa using hr.2) r0 fun x hx => hlt x (by simp [hx]))
/-- What a law's row asks behind the call. -/
theorem post_below {f : Func} {s : ChangeSpec} {apart fresh handsOn : Bool} {W W' : World} {args : Array Value} {v : Value} {ds gs : List (DataW H)} {before : List MemPlace} (hl : laidOutB P = true)
    (hr : (f.params.toList.all fun t => P.readableRec t && decide (t < P.types.size)) = true) (hW : DataW.Whole enc P f.params.toList s.vars apart W args.toList ds gs before) (hb : Below W.heap.size W W')
    (hres : ∀ (b : Nat) (sp : Nat → Bool) (hd : Bool), DataW.TrodAll enc P W' b sp hd f.resultTypes.toList (v.resultList f.resultTypes.size) (s.fn H (ds ++ gs)).results [])
    (hargs : (s.fn H (ds ++ gs)).args = ds) (hA : DataW.TrodAll enc P W 0 (fun _ => true) true f.params.toList args.toList ds before) (hvars : ∀ sp : Nat → Bool, DataW.TrodVars enc P W' sp s.vars (s.fn H (ds ++ gs)).vars []) :
    s.post enc P f apart fresh handsOn false W args v W' := by
  have hlt : ∀ x ∈ before, x.block < W.heap.size := fun x hx => by simpa using hW.lt x hx
  refine ⟨ds, gs, before, [], before, [], hW, hres _ _ _, ?_, hvars _, hb.frame _, fun h => by cases h⟩
  rw [hargs]
  exact trodAll_below hl hb hr hA hlt
end
end Go.X
set_option linter.unusedVariables false
namespace Go.Proofs
open Go.Shelf
def Try.lays169_ren : Go.Shelf.Ren := ⟨fun | 169 => 39 | n => n, fun | 70 => 73 | 9 => 9 | 0 => 0 | 72 => 75 | 37 => 33 | 127 => 131 | 3 => 3 | 5 => 5 | n => n, fun | n => n⟩
theorem Try.lays169 : Go.Proofs.Lays.n169 Try.prog Try.lays169_ren := {
  mixed := by kernel_rfl
  f169 := Try.func39.trans (congrArg some (by kernel_rfl))
  t0 := Try.underlying0
  a0 := Try.isAgg0
  z0 := Try.sizeOf0
  v0 := Try.zeroValue0
  t3 := Try.underlying3
  a3 := Try.isAgg3
  z3 := Try.sizeOf3
  v3 := Try.zeroValue3
  t9 := Try.underlying9
  a9 := Try.isAgg9
  z9 := Try.sizeOf9
  v9 := Try.zeroValue9
  t37 := Try.underlying33
  a37 := Try.isAgg33
  z37 := Try.sizeOf33
  v37 := Try.zeroValue33
  t70 := Try.underlying73
  a70 := Try.isAgg73
  z70 := Try.sizeOf73
  v70 := Try.zeroValue73
  t72 := Try.underlying75
  a72 := Try.isAgg75
  z72 := Try.sizeOf75
  v72 := Try.zeroValue75
  t127 := Try.underlying131
  a127 := Try.isAgg131
  z127 := Try.sizeOf131
  v127 := Try.zeroValue131 }
theorem Try.Builder_Extra_169 : Builder.Extra Try.prog Try.lays169_ren := {
  sizeBuilder := by kernel_rfl
  liesBuilder := by kernel_rfl
  t5 := Try.underlying5
  a5 := Try.isAgg5
  z5 := Try.sizeOf5
  v5 := Try.zeroValue5
  infoByte := by kernel_rfl
  cellsByte := by kernel_rfl
  sizeByte := by kernel_rfl
  neB5 := by decide }
open Go.RowKit in
/-- (*strings.Builder).String: "String returns the accumulated string.": OF A BUILDER THAT HOLDS AT LEAST ONE BYTE. ✋ THE MODEL FREEZES THOSE BYTES IN THE BUFFER (unsafe.String): a later write INTO them ends the model's run without an answer; a later append BEHIND them goes on. The statement's order of evaluation is drawn: one draw. (LAID: no walk: one application.) -/
theorem Try.Builder_String (B b : Nat) (l : List UInt8) (w : World) (h : Lib.IsBuilder 75 5 B b (Lib.byteCells l) w) (h0 : l ≠ []) :
    Calls Try.prog 39 #[.pointer (some ⟨b, 0, none⟩)] w fun e w' => e = .returned (.string ⟨l.toArray⟩) ∧ Below B w w' := Any.Builder_String Try.lays169 Try.Builder_Extra_169 B b l w h h0
open Go.RowKit in
/-- (*strings.Builder).String OF A BUILDER THAT HOLDS NO BYTE: the empty string. (Its buffer is nil, or a row of which it has taken nothing yet; where that row has NO capacity the model lays one new block for unsafe.SliceData's 'some address'.) One draw. (LAID: no walk: one application.) -/
theorem Try.Builder_String_empty (B b : Nat) (w : World) (h : Lib.IsBuilder 75 5 B b [] w) (hBw : B ≤ w.heap.size) :
    Calls Try.prog 39 #[.pointer (some ⟨b, 0, none⟩)] w fun e w' => e = .returned (.string ⟨#[]⟩) ∧ Below B w w' := Any.Builder_String_empty Try.lays169 Try.Builder_Extra_169 B b w h hBw
open Go.RowKit in
/-- (*strings.Builder).String: "String returns the accumulated string.": WHATEVER THE BUILDER HOLDS. (LAID: no walk: one application.) -/
theorem Try.Builder_String_any (B b : Nat) (l : List UInt8) (w : World) (h : Lib.IsBuilder 75 5 B b (Lib.byteCells l) w) (hBw : B ≤ w.heap.size) :
    Calls Try.prog 39 #[.pointer (some ⟨b, 0, none⟩)] w fun e w' => e = .returned (.string ⟨l.toArray⟩) ∧ Below B w w' := Any.Builder_String_any Try.lays169 Try.Builder_Extra_169 B b l w h hBw
def Try.laysNm216_ren : Go.Shelf.Ren := ⟨fun | 16 => 67 | n => n, fun | 24 => 23 | 9 => 9 | 4 => 4 | n => n, fun | n => n⟩
theorem Try.laysNm216 : Go.Proofs.Lays2.n16 Try.prog Try.laysNm216_ren := {
  mixed := by kernel_rfl
  f16 := Try.func67.trans (congrArg some (by kernel_rfl))
  t4 := Try.underlying4
  a4 := Try.isAgg4
  z4 := Try.sizeOf4
  v4 := Try.zeroValue4
  t9 := Try.underlying9
  a9 := Try.isAgg9
  z9 := Try.sizeOf9
  v9 := Try.zeroValue9
  t24 := Try.underlying23
  a24 := Try.isAgg23
  z24 := Try.sizeOf23
  v24 := Try.zeroValue23
  i9 := by kernel_rfl }
open Go.RowKit Go.Lib in
/-- slices.Clone at []string: "Clone returns a copy of the slice. The elements are copied using assignment, so this is a shallow clone. The result may have additional unused capacity. The result preserves the nilness of s.": OF A SLICE THAT IS NOT nil IT RETURNS A SLICE THAT IS NOT nil, OF THE SAME ELEMENTS, IN MEMORY OF THE CALL's OWN: in the how-to's words (6f): 'w'.ownsRow B e 1 v' n cells': v' begins at the head of a row among the blocks from B on (B: the heap's size at the call), not frozen, whose first cells are the elements · 'Below B w w'': below B all is as it was. The capacity is whatever the run-time gives. 'zs': what the cells behind the slice's address hold; 'zs.take n': its elements. (LAID: no walk: one application.) -/
theorem Try.slices_Clone_string (b off n c : Nat) (zs : List ByteArray) (w : World) (hz : n ≤ zs.length) (hbig : n * 16 ≤ 140737488355328) (hc : ∀ j, j < zs.length → w.cell? ⟨b, off + j, none⟩ = some (.string (zs.getD j ByteArray.empty))) :
    Calls Try.prog 67 #[.slice (some ⟨b, off, none⟩) n c] w fun e w' => ∃ v', e = .returned v' ∧ w'.ownsRow w.heap.size 9 1 v' n ((zs.take n).map (Value.string)) ∧ v' ≠ .slice none 0 0 ∧ Below w.heap.size w w' := Any.slices_Clone_string Try.laysNm216 b off n c zs w hz hbig hc
open Go.RowKit Go.Lib in
/-- The same at nil: nil comes back; the world is as it was. (LAID: no walk: one application.) -/
theorem Try.slices_Clone_string_nil (n c : Nat) (w : World) :
    Calls Try.prog 67 #[.slice none n c] w fun e w' => e = .returned (.slice none 0 0) ∧ w' = w := Any.slices_Clone_string_nil Try.laysNm216 n c w
open Go.RowKit Go.Lib in
/-- The same at a slice of length 0 that is not nil, WHATEVER ITS ADDRESS (no cell is asked for): a slice that is not nil and owns nothing comes back. (LAID: no walk: one application.) -/
theorem Try.slices_Clone_string_zero (a : Addr) (c : Nat) (w : World) :
    Calls Try.prog 67 #[.slice (some a) 0 c] w fun e w' => ∃ v', e = .returned v' ∧ w'.ownsRow w.heap.size 9 1 v' 0 [] ∧ v' ≠ .slice none 0 0 ∧ Below w.heap.size w w' := Any.slices_Clone_string_zero Try.laysNm216 a c w
end Go.Proofs
set_option linter.unusedVariables false
namespace Go.Proofs
open Go.Shelf Go.RowKit
theorem Try.bldSize : (Try.prog.info? 75).map (·.size) = some 2 := by kernel_rfl
theorem Try.bldLies : liesAt Try.prog Try.prog.depth 75 (2 / Try.prog.cellsOf 75) 0 75 1 = true := by kernel_rfl
theorem Try.byteInfo : (Try.prog.info? 5).map (fun i => (i.zero, i.size, i.bytes)) = some (some (.int .u8 0), 1, 1) := by kernel_rfl
set_option maxHeartbeats 1000000 in
set_option maxRecDepth 100000 in
theorem Try.cc_used (b : Nat) (w : World) (h0 : w.cell? ⟨b, 0, none⟩ = some (.pointer (some ⟨b, 0, none⟩))) :
    Calls Try.prog 84 #[.pointer (some ⟨b, 0, none⟩)] w fun e w' => e = .returned (.tuple #[]) ∧ w' = w := by
  obtain ⟨j, hj, _⟩ := Option.map_eq_some_iff.1 Try.bldSize
  go_enter Try.func84, Try.ntmps84
  go_wp2
  rw [Lib.run_neq_ptr_same w _ Try.underlying73 hj]
  go_wp2
  go_end0
  exact ⟨rfl, rfl⟩
set_option maxHeartbeats 1000000 in
set_option maxRecDepth 100000 in
theorem Try.cc_fresh (b : Nat) (w : World) (h0 : w.cell? ⟨b, 0, none⟩ = some (.pointer none)) (hsh : w.shape? b = some (75, 2)) (hfz : w.frozen? ⟨b, 0, none⟩ = false) :
    Calls Try.prog 84 #[.pointer (some ⟨b, 0, none⟩)] w fun e w' => e = .returned (.tuple #[]) ∧ w' = w.setCell ⟨b, 0, none⟩ (.pointer (some ⟨b, 0, none⟩)) := by
  obtain ⟨j, hj, hjs⟩ := Option.map_eq_some_iff.1 Try.bldSize
  go_enter Try.func84, Try.ntmps84
  go_wp2
  rw [Lib.run_to_unsafe w ⟨b, 0, none⟩ Try.underlying73 Try.underlying146 hj (by rw [hjs]; decide) hsh (Nat.zero_lt_succ 1)]
  simp only [Result.andThen]
  rw [Oper.upon_value]
  go_wp2
  rw [run_callFunc_extern Try.func100 (by kernel_rfl) (by kernel_rfl) (by kernel_rfl) (e := Extern.AbiNoEscape.same) (by kernel_rfl)]
  rw [Lib.run_noEscape]
  simp only [Result.andThen]
  rw [Oper.upon_value]
  go_wp2
  rw [Lib.run_from_unsafe w ⟨b, 0, none⟩ Try.underlying146 Try.underlying73 hj hsh Try.bldLies]
  simp only [Result.andThen]
  rw [Oper.upon_value]
  go_wp2
  go_end0
  exact ⟨rfl, rfl⟩
theorem Try.cc (B b : Nat) (bs : List Value) (w : World) (h : Lib.IsBuilder 75 5 B b bs w) :
    Calls Try.prog 84 #[.pointer (some ⟨b, 0, none⟩)] w fun e w' => e = .returned (.tuple #[]) ∧ (Lib.BuilderAt 75 5 B b (.pointer (some ⟨b, 0, none⟩)) bs w' ∧ Below B w w') := by
  rcases h with h | h
  · refine (Try.cc_fresh b w h.cell0 h.shape h.frozen0).mono ?_
    rintro e w' ⟨rfl, rfl⟩
    exact ⟨rfl, h.used _, (Below.refl B w).setCell (p := ⟨b, 0, none⟩) h.1 _⟩
  · refine (Try.cc_used b w h.cell0).mono ?_
    rintro e w' ⟨rfl, rfl⟩
    exact ⟨rfl, h, Below.refl B _⟩
set_option maxHeartbeats 2000000 in
set_option maxRecDepth 100000 in
theorem Try.ws (B b : Nat) (bs : List Value) (s : ByteArray) (w : World) (h : Lib.IsBuilder 75 5 B b bs w) (hlen : bs.length + s.size ≤ 140737488355328) (hBw : B ≤ w.heap.size) :
    Calls Try.prog 38 #[.pointer (some ⟨b, 0, none⟩), .string s] w fun e w' => e = .returned (.tuple #[.int .i64 s.size, .nilIface]) ∧ (Lib.BuilderAt 75 5 B b (.pointer (some ⟨b, 0, none⟩)) (bs ++ Lib.strCells s) w' ∧ Below B w w') := by
  obtain ⟨i0, hi, hz0, hz1, hz2⟩ := info_parts Try.byteInfo
  go_enter Try.func38, Try.ntmps38
  go_wp2_with (go_at_call 84; refine (Try.cc B b bs _ h).mono ?_)
  rintro e w1 ⟨rfl, h1, hb1⟩
  obtain ⟨hB, v, hbk, hown, hne⟩ := h1
  have c0 : w1.cell? ⟨b, 0, none⟩ = some (.pointer (some ⟨b, 0, none⟩)) := by rw [Lib.cell_of_heap hbk]; rfl
  have c1 : w1.cell? ⟨b, 1, none⟩ = some v := by rw [Lib.cell_of_heap hbk]; rfl
  go_wp2_with (at_builtin; refine Lib.wpList_append_own_string _ rfl _ _ 33 9 rfl B 5 i0 Try.underlying33 Try.underlying9 hi hz0 hz1 hz2 _ _ _ rfl hown s rfl ?c3 ?c4 ?c5 ?_)
  case c3 => unfold maxLen; omega
  case c4 => omega
  case c5 => have := hb1.size; omega
  intro v' w2 hown' hgrow _
  have hlt : b < w1.heap.size := by
    rcases Nat.lt_or_ge b w1.heap.size with h' | h'
    · exact h'
    · simp [Array.getElem?_eq_none h'] at hbk
  have hb2 : w2.heap[b]? = some (.cells #[.pointer (some ⟨b, 0, none⟩), v] 75 (0, 0)) := by
    rw [hgrow.block b hlt (fun e => hne e.symm)]
    exact hbk
  have d0 : w2.cell? ⟨b, 0, none⟩ = some (.pointer (some ⟨b, 0, none⟩)) := by rw [Lib.cell_of_heap hb2]; rfl
  have d1 : w2.cell? ⟨b, 1, none⟩ = some v := by rw [Lib.cell_of_heap hb2]; rfl
  have f1 : w2.frozen? ⟨b, 1, none⟩ = false := Lib.frozen_of_heap hb2 1
  obtain ⟨ao, n', cap, rfl⟩ : ∃ ao n' cap, v' = .slice ao n' cap := by
    rcases hown'.2 with ⟨hv, _⟩ | ⟨g, cap, cur, hv, _⟩
    · exact ⟨_, _, _, hv⟩
    · exact ⟨_, _, _, hv⟩
  go_wp2
  go_ret2
  refine ⟨rfl, ?_, ?_⟩
  · exact Lib.BuilderAt.put (T := 75) (e := 5) hB hb2 (bs' := bs ++ Lib.strCells s) (by simpa [Lib.strCells_length] using hown') (by decide)
  · exact (hb1.grown hgrow (by have := hb1.size; omega) (fun k hk => (hown.lt k hk).1)).setCell (p := ⟨b, 1, none⟩) hB _
end Go.Proofs
set_option linter.unusedVariables false
set_option linter.unusedSimpArgs false
namespace Go.Proofs
open Go.Shelf Go.RowKit Go.X
/-! ### slices.Clone -/
def cl67 : Go.X.Callee := fun args hp => match args, hp with
  | [.one (.ro _ (.strs l))], [] => if l.length ≤ 100000 then some (.one (.row 0), [.rows (.strs l)]) else none
  | _, _ => none
theorem fr_below {C : Cx} {w w' : World} (h0 : C.w0 = w) (hb : Below w.heap.size w w') : FR C w' := by
  subst h0
  exact ⟨hb.size, fun b hb1 _ => hb.block b hb1, hb.os, hb.tape, hb.output⟩
theorem hr_row {C : Cx} {w' : World} {v : Value} {l : List ByteArray} {n : Nat} (hn : n = l.length) (hl : l.length ≤ 100000) (h : w'.ownsRow C.w0.heap.size 9 1 v n (l.map Value.string)) : HR C (fun _ => ⟨v, 1⟩) [.rows (.strs l)] w' ∧ ∃ a m cap, v = .slice a m cap := by
  obtain ⟨h1, h2⟩ := h
  subst hn
  refine ⟨⟨fun k o ho => ?_, fun j k b hjk hj hk => ?_⟩, ?_⟩
  · cases k with
    | succ k => simp at ho
    | zero =>
      simp only [List.getElem?_cons_zero, Option.some.injEq] at ho
      subst ho
      refine ⟨trivial, rfl, ?_⟩
      rcases h2 with ⟨rfl, h2⟩ | ⟨g, cap, cur, rfl, hg, hh, hc1, hc2, hc3, hc4⟩
      · exact .inl ⟨rfl, h2⟩
      · refine .inr ⟨g, 0, cap, cur, 9, (0, 0), rfl, .inr hg, hh, hc1, hc2, by simp [RC.size, hc3], fun j u hj => ?_, fun j _ => by simp⟩
        simp only [RC.vals] at hj
        rw [← hc4] at hj
        rw [Nat.zero_add, ← Array.getElem?_toList]
        rw [List.getElem?_take] at hj
        split at hj
        · exact hj
        · simp at hj
  · obtain ⟨_, e1, _⟩ := hj
    obtain ⟨_, e2, _⟩ := hk
    cases j with
    | succ j => simp at e1
    | zero =>
      cases k with
      | succ k => simp at e2
      | zero => exact absurd rfl hjk
  · rcases h2 with ⟨rfl, h2⟩ | ⟨g, cap, cur, rfl, hg, hh, hc1, hc2, hc3, hc4⟩ <;> exact ⟨_, _, _, rfl⟩
theorem w67 : Sound Try.prog 67 cl67 := by
  intro args hp r hp' h
  unfold cl67 at h
  split at h
  · rename_i t l
    split at h
    · rename_i hl
      simp only [Option.some.injEq, Prod.mk.injEq] at h
      obtain ⟨rfl, rfl⟩ := h
      refine ⟨by kernel_rfl, fun C ρ w rargs hP h0 hD hv hH => ?_⟩
      cases hv with
      | cons _ v _ vs h1 h2 =>
        cases h2
        cases h1 with
        | one _ _ h1 =>
          cases h1 with
          | ro _ _ a cap hr hc =>
            obtain ⟨hw, hr⟩ := hr
            have post : ∀ (e : Ending) (w' : World), (∃ v', e = .returned v' ∧ w'.ownsRow w.heap.size 9 1 v' l.length (l.map Value.string) ∧ Below w.heap.size w w') → ∃ ρ' rv, e = .returned rv ∧ AVR C [Ob.rows (.strs l)].length ρ' (.one (.row 0)) rv ∧ HR C ρ' [.rows (.strs l)] w' ∧ FR C w' := by
              rintro e w' ⟨v', rfl, ho, hb⟩
              rw [← h0] at ho
              obtain ⟨q1, a', m', c', rfl⟩ := hr_row rfl hl ho
              exact ⟨_, _, rfl, .one _ _ (.row 0 a' m' c' (by simp) rfl), q1, fr_below h0 hb⟩
            show Calls Try.prog 67 #[.slice a l.length cap] w _
            cases l with
            | nil =>
              cases a with
              | none =>
                refine (Try.slices_Clone_string_nil 0 cap w).mono fun e w' ⟨he, hw'⟩ => post e w' ⟨_, he, ?_, ?_⟩
                · subst hw'; exact ⟨rfl, .inl ⟨rfl, rfl⟩⟩
                · subst hw'; exact Below.refl _ _
              | some a =>
                exact (Try.slices_Clone_string_zero a cap w).mono fun e w' ⟨v', he, ho, _, hb⟩ => post e w' ⟨v', he, ho, hb⟩
            | cons s l =>
              obtain ⟨b, o, rfl, _, _, hcell⟩ := hr (by simp [RC.len])
              rw [h0] at hcell
              have hcl := Try.slices_Clone_string b o (s :: l).length cap (s :: l) w (Nat.le_refl _) (by omega) (fun j hj => by
                rw [hcell j (.string ((s :: l).getD j .empty)) (by
                  simp only [RC.vals, List.getElem?_map, List.getElem?_eq_getElem hj, Option.map_some, List.getD, Option.getD_some])])
              rw [List.take_length] at hcl
              exact hcl.mono fun e w' ⟨v', he, ho, _, hb⟩ => post e w' ⟨v', he, ho, hb⟩
    · simp at h
  · simp at h
/-! ### journal.Write -/
def wrL (F : Go.X.Callee) : List ByteArray → List UInt8 → Option (ByteArray × Int)
  | [], acc => some (⟨acc.toArray⟩, 0)
  | s :: l, acc => match F [.one (.str s)] [] with
    | some (.tup [.one (.str t), .one (.int .i64 e)], []) => if e = 0 then (if acc.length + t.size ≤ 140737488355328 then wrL F l (acc ++ t.data.toList) else none) else some (⟨#[]⟩, e)
    | _ => none
def wr12 (F : Go.X.Callee) : Go.X.Callee := fun args hp => match args, hp with
  | [.one (.ro _ (.strs l))], [] => if l.length ≤ 100000 then (wrL F l []).map fun r => (.tup [.one (.str r.1), .one (.int .i64 r.2)], []) else none
  | _, _ => none
theorem c22 {F : Go.X.Callee} (hS : Sound Try.prog 22 F) {s t : ByteArray} {x : Int} (h : F [.one (.str s)] [] = some (.tup [.one (.str t), .one (.int .i64 x)], [])) (w : World) :
    Calls Try.prog 22 #[.string s] w fun e w' => e = .returned (.tuple #[.string t, .int .i64 x]) ∧ Below w.heap.size w w' := by
  refine Calls.mono ((hS _ [] _ _ h).2 (cx0 Try.prog w (fun _ => 0)) rho0 w [.string s] rfl rfl rfl (.cons _ _ _ _ (.one _ _ (.str s)) .nil) ⟨fun k o h => by simp at h, fun j k b _ hj => ?_⟩) ?_
  · obtain ⟨o, ho, _⟩ := hj; simp at ho
  · rintro e w' ⟨ρ', rv, rfl, h1, _, h3⟩
    cases h1 with
    | tup _ _ h1 =>
      cases h1 with
      | cons _ _ _ _ h1 h2 =>
        cases h1 with
        | one _ _ h1 =>
          cases h1
          cases h2 with
          | cons _ _ _ _ h1 h2 =>
            cases h1 with
            | one _ _ h1 =>
              cases h1
              cases h2
              exact ⟨rfl, h3.os, h3.tape, h3.output, h3.size, fun k hk => h3.block k hk (fun h => h)⟩
theorem below_less {B B' : Nat} {w w' : World} (h : Below B w w') (hB : B' ≤ B) : Below B' w w' := ⟨h.os, h.tape, h.output, h.size, fun k hk => h.block k (by omega)⟩
theorem bld_below {T e : TypeId} {B b : Nat} {bs : List Value} {w w' : World} (h : Lib.IsBuilder T e B b bs w) (hb : Below w.heap.size w w') : Lib.IsBuilder T e B b bs w' := by
  have key : ∀ p, Lib.BuilderAt T e B b p bs w → Lib.BuilderAt T e B b p bs w' := by
    rintro p ⟨h1, v, h2, ⟨h3, h4⟩, h5⟩
    have lt : ∀ (k : Nat) (o : Obj), w.heap[k]? = some o → w'.heap[k]? = some o := fun k o hk => by
      rw [hb.block k (Array.getElem?_eq_some_iff.1 hk).1]; exact hk
    refine ⟨h1, v, lt _ _ h2, ⟨h3, ?_⟩, h5⟩
    rcases h4 with h4 | ⟨g, cap, cur, e1, e2, e3, e4⟩
    · exact .inl h4
    · exact .inr ⟨g, cap, cur, e1, e2, lt _ _ e3, e4⟩
  rcases h with h | h
  · exact .inl (key _ h)
  · exact .inr (key _ h)
set_option maxHeartbeats 4000000 in
set_option maxRecDepth 100000 in
theorem wk12 {F : Go.X.Callee} (hS : Sound Try.prog 22 F) (l : List ByteArray) (a : Option Addr) (cap : Nat) (w : World) (res : ByteArray × Int) (hl : l.length ≤ 100000) (hc : l.length ≤ cap)
    (hr : 0 < l.length → ∃ b o, a = some ⟨b, o, none⟩ ∧ b < w.heap.size ∧ ∀ (j : Nat) (u : ByteArray), l[j]? = some u → w.cell? ⟨b, o + j, none⟩ = some (.string u)) (h : wrL F l [] = some res) :
    Calls Try.prog 12 #[.slice a l.length cap] w fun e w' => e = .returned (.tuple #[.string res.1, .int .i64 res.2]) ∧ Below w.heap.size w w' := by
  have b0 : Below w.heap.size w (w.alloc (.cells #[.pointer none, .slice none 0 0] 75)) := (Below.refl _ w).alloc (Nat.le_refl _) _
  have h0 : Lib.IsBuilder 75 5 w.heap.size w.heap.size (Lib.byteCells []) (w.alloc (.cells #[.pointer none, .slice none 0 0] 75)) := Lib.fresh_isBuilder 75 5 w
  go_enter Try.func12, Try.ntmps12
  go_wp2_with fail
  go_loopw [11] (fun i wr => ∃ (k : Nat) (acc : List UInt8), k ≤ l.length ∧ i = .int .i64 (k : Int) ∧ Lib.IsBuilder 75 5 w.heap.size w.heap.size (Lib.byteCells acc) wr ∧ Below w.heap.size w wr ∧ wrL F (l.drop k) acc = some res) (fun i _ => l.length - (intOf i).toNat)
  case atStart => exact ⟨0, [], Nat.zero_le _, rfl, h0, b0, h⟩
  case round =>
    obtain ⟨k, acc, hk, rfl, hB, hW, hrest⟩ := hrel
    by_cases hkn : k < l.length
    · obtain ⟨s, hs⟩ : ∃ s, l[k]? = some s := ⟨_, List.getElem?_eq_getElem hkn⟩
      obtain ⟨b, o, rfl, hbw, hcell⟩ := hr (by omega)
      have hcx : wr.cell? ⟨b, o + k, none⟩ = some (.string s) := by
        rw [hW.cell (p := ⟨b, o + k, none⟩) hbw]
        exact hcell k s hs
      have hdr : l.drop k = s :: l.drop (k + 1) := by
        rw [List.drop_eq_getElem_cons hkn]
        rw [List.getElem?_eq_getElem hkn] at hs
        simp at hs
        rw [hs]
      rw [hdr] at hrest
      simp only [wrL] at hrest
      have hWs := hW.size
      split at hrest
      · rename_i t x hF
        split at hrest
        · rename_i hx
          subst hx
          split at hrest
          · rename_i hsz
            clear hcell
            go_wp2_with (go_at_call 22; refine (c22 hS hF _).mono ?_)
            rintro e W1 ⟨rfl, hb1⟩
            have hB1 := bld_below hB hb1
            have hW1 : Below w.heap.size w W1 := hW.trans (below_less hb1 hWs)
            go_wp2_with (go_at_call 38; refine (Try.ws w.heap.size w.heap.size _ t _ hB1 (by rw [Lib.byteCells_length]; exact hsz) hW1.size).mono ?_)
            rintro e W2 ⟨rfl, hB2, hb2⟩
            go_wp2
            go_roundw
            case rel =>
              refine ⟨k + 1, acc ++ t.data.toList, by omega, by simp, ?_, hW1.trans hb2, hrest⟩
              rw [Lib.strCells_eq, ← Lib.byteCells_append] at hB2
              exact .inr hB2
            case measure => simp [intOf]; omega
          · simp at hrest
        · rename_i hx
          simp only [Option.some.injEq] at hrest
          subst hrest
          go_wp2_with (go_at_call 22; refine (c22 hS hF _).mono ?_)
          rintro e W1 ⟨rfl, hb1⟩
          go_wp2
          go_ret2
          exact ⟨rfl, hW.trans (below_less hb1 hWs)⟩
      · simp at hrest
    · have hke : k = l.length := by omega
      subst hke
      rw [List.drop_length] at hrest
      simp only [wrL, Option.some.injEq] at hrest
      subst hrest
      go_wp2_with (go_at_call 39; refine (Try.Builder_String_any w.heap.size w.heap.size acc _ hB hW.size).mono ?_)
      rintro e W1 ⟨rfl, hb1⟩
      go_wp2
      go_ret2
      exact ⟨rfl, hW.trans hb1⟩
theorem w12 {F : Go.X.Callee} (hS : Sound Try.prog 22 F) : Sound Try.prog 12 (wr12 F) := by
  intro args hp r hp' h
  unfold wr12 at h
  split at h
  · rename_i t l
    split at h
    · rename_i hl
      cases hw : wrL F l [] with
      | none => rw [hw] at h; simp at h
      | some res =>
        rw [hw] at h
        simp only [Option.map_some, Option.some.injEq, Prod.mk.injEq] at h
        obtain ⟨rfl, rfl⟩ := h
        refine ⟨by kernel_rfl, fun C ρ w rargs hP h0 hD hv hH => ?_⟩
        cases hv with
        | cons _ v _ vs h1 h2 =>
          cases h2
          cases h1 with
          | one _ _ h1 =>
            cases h1 with
            | ro _ _ a cap hr hc =>
              obtain ⟨_, hr⟩ := hr
              refine (wk12 hS l a cap w res hl hc (fun hlen => ?_) hw).mono ?_
              · obtain ⟨b, o, e1, hown, _, hcell⟩ := hr hlen
                refine ⟨b, o, e1, ?_, fun j u hj => ?_⟩
                · rcases Nat.lt_or_ge b w.heap.size with h' | h'
                  · exact h'
                  · exact absurd (.inr (by rw [h0]; exact h')) hown
                · rw [← h0]
                  exact hcell j (.string u) (by simp [RC.vals, hj])
              · rintro e w' ⟨rfl, hb⟩
                exact ⟨ρ, _, rfl, .tup _ _ (.cons _ _ _ _ (.one _ _ (.str _)) (.cons _ _ _ _ (.one _ _ (.int _ _)) .nil)), ⟨fun k o h => by simp at h, fun j k b _ hj => by obtain ⟨o, ho, _⟩ := hj; simp at ho⟩, fr_below h0 hb⟩
    · simp at h
  · simp at h
end Go.Proofs
/- The functions' codes, each turned by the compiler (Lean checks it), and what each comes to, as a function of data. -/
set_option maxRecDepth 100000
namespace Go.X.Try
theorem mixed : Go.Proofs.Try.prog.follows .mixedOrders = true := by kernel_rfl

def b57x0 : AC := (.seq (.seq (.ops [⟨(some 7), none, (.mv (.tmp 1))⟩, ⟨(some 8), none, (.bin .gtr (.tmp 7) (.const (.one (.int .u64 127))))⟩]) (.cond (.tmp 8) .skip (.exit 0))) (.block 1 (.seq (.ops [⟨(some 9), none, (.mv (.tmp 0))⟩, ⟨(some 10), none, (.mv (.tmp 0))⟩, ⟨(some 11), none, (.nilCheck (.tmp 10))⟩, ⟨(some 12), none, (.fadr 0 (.tmp 11))⟩, ⟨(some 13), none, (.load none (.tmp 12))⟩, ⟨(some 14), none, (.mv (.tmp 1))⟩, ⟨(some 15), none, (.conv .u8 (.tmp 14))⟩, ⟨(some 16), none, (.bin .or (.tmp 15) (.const (.one (.int .u8 128))))⟩, ⟨(some 17), none, (.bslice (.ints .u8 []) [(.int .u8 0)] 1 [(0, (.tmp 16))])⟩, ⟨(some 18), none, (.append (.ints .u8 []) 1 (.tmp 13) (.tmp 17))⟩, ⟨(some 19), none, (.nilCheck (.tmp 9))⟩, ⟨(some 20), none, (.fadr 0 (.tmp 19))⟩, ⟨none, none, (.store 1 (.tmp 20) (.tmp 18))⟩]) (.ops [⟨(some 21), none, (.mv (.tmp 1))⟩, ⟨(some 22), none, (.bin .shr (.tmp 21) (.const (.one (.int .u64 7))))⟩, ⟨(some 1), none, (.mv (.tmp 22))⟩]))))
def c57 : AF := ⟨[(4, none)],
  (.seq (.ops [⟨(some 4), none, (.mv (.const (.one .nilp)))⟩]) (.seq (.seq (.ops [⟨(some 5), none, (.mv (.tmp 0))⟩, ⟨(some 6), none, (.eqNil false (.tmp 5))⟩]) (.cond (.tmp 6) (.seq (.ops [⟨(some 4), none, (.mv (.const (.one .nilp)))⟩]) .ret) .skip)) (.seq (.block 0 (.loop [0, 1] b57x0)) (.seq (.ops [⟨(some 23), none, (.mv (.tmp 0))⟩, ⟨(some 24), none, (.mv (.tmp 0))⟩, ⟨(some 25), none, (.nilCheck (.tmp 24))⟩, ⟨(some 26), none, (.fadr 0 (.tmp 25))⟩, ⟨(some 27), none, (.load none (.tmp 26))⟩, ⟨(some 28), none, (.mv (.tmp 1))⟩, ⟨(some 29), none, (.conv .u8 (.tmp 28))⟩, ⟨(some 30), none, (.bslice (.ints .u8 []) [(.int .u8 0)] 1 [(0, (.tmp 29))])⟩, ⟨(some 31), none, (.append (.ints .u8 []) 1 (.tmp 27) (.tmp 30))⟩, ⟨(some 32), none, (.nilCheck (.tmp 23))⟩, ⟨(some 33), none, (.fadr 0 (.tmp 32))⟩, ⟨none, none, (.store 1 (.tmp 33) (.tmp 31))⟩]) (.seq (.ops [⟨(some 34), none, (.mv (.tmp 0))⟩, ⟨(some 4), none, (.mv (.tmp 34))⟩]) .ret)))))⟩
abbrev T57 : Nat → Callee := none0
def F57 : Callee := evF T57 KK c57
theorem s57 : Sound Go.Proofs.Try.prog 57 F57 := fn_ok (none0_ok _) mixed (by kernel_rfl)
def c58 : AF := ⟨[(2, none)],
  (.seq (.ops [⟨(some 2), none, (.mv (.const (.one (.str ⟨#[]⟩))))⟩]) (.seq (.seq (.ops [⟨(some 3), none, (.mv (.tmp 0))⟩, ⟨(some 4), none, (.eqNil false (.tmp 3))⟩]) (.cond (.tmp 4) (.seq (.ops [⟨(some 2), none, (.mv (.const (.one (.str ⟨#[]⟩))))⟩]) .ret) .skip)) (.seq (.ops [⟨(some 5), none, (.mv (.tmp 0))⟩, ⟨(some 6), none, (.nilCheck (.tmp 5))⟩, ⟨(some 7), none, (.fadr 0 (.tmp 6))⟩, ⟨(some 8), none, (.load none (.tmp 7))⟩, ⟨(some 9), none, (.b2s (.tmp 8))⟩, ⟨(some 2), none, (.mv (.tmp 9))⟩]) .ret)))⟩
abbrev T58 : Nat → Callee := none0
def F58 : Callee := evF T58 0 c58
theorem s58 : Sound Go.Proofs.Try.prog 58 F58 := fn_ok (none0_ok _) mixed (by kernel_rfl)
def c94 : AF := ⟨[(2, none)],
  (.seq (.ops [⟨(some 2), none, (.mv (.const (.one (.int .i64 0))))⟩]) (.seq (.ops [⟨(some 3), none, (.mv (.tmp 0))⟩, ⟨(some 4), none, (.max [(.tmp 3), (.const (.one (.int .i64 0)))])⟩, ⟨(some 5), none, (.min [(.tmp 4), (.const (.one (.int .i64 8)))])⟩, ⟨(some 2), none, (.mv (.tmp 5))⟩]) .ret))⟩
abbrev T94 : Nat → Callee := none0
def F94 : Callee := evF T94 0 c94
theorem s94 : Sound Go.Proofs.Try.prog 94 F94 := fn_ok (none0_ok _) mixed (by kernel_rfl)
def b59x0 : AC := (.seq (.ops [⟨(some 12), none, (.bin .lss (.tmp 11) (.tmp 10))⟩]) (.seq (.cond (.tmp 12) .skip (.exit 0)) (.seq (.block 1 (.seq (.ops [⟨(some 13), none, (.mv (.tmp 0))⟩, ⟨(some 14), none, (.mv (.tmp 0))⟩, ⟨(some 15), none, (.nilCheck (.tmp 14))⟩, ⟨(some 16), none, (.fadr 0 (.tmp 15))⟩, ⟨(some 17), none, (.load none (.tmp 16))⟩, ⟨(some 18), none, (.mv (.tmp 1))⟩, ⟨(some 19), none, (.conv .u8 (.tmp 18))⟩, ⟨(some 20), none, (.bslice (.ints .u8 []) [(.int .u8 0)] 1 [(0, (.tmp 19))])⟩, ⟨(some 21), none, (.append (.ints .u8 []) 1 (.tmp 17) (.tmp 20))⟩, ⟨(some 22), none, (.nilCheck (.tmp 13))⟩, ⟨(some 23), none, (.fadr 0 (.tmp 22))⟩, ⟨none, none, (.store 1 (.tmp 23) (.tmp 21))⟩]) (.ops [⟨(some 24), none, (.mv (.tmp 1))⟩, ⟨(some 25), none, (.bin .shr (.tmp 24) (.const (.one (.int .u64 8))))⟩, ⟨(some 1), none, (.mv (.tmp 25))⟩]))) (.ops [⟨(some 26), none, (.bin .add (.tmp 11) (.const (.one (.int .i64 1))))⟩, ⟨(some 11), none, (.mv (.tmp 26))⟩]))))
def c59 : AF := ⟨[(6, none)],
  (.seq (.ops [⟨(some 6), none, (.mv (.const (.one .nilp)))⟩]) (.seq (.seq (.ops [⟨(some 7), none, (.mv (.tmp 0))⟩, ⟨(some 8), none, (.eqNil false (.tmp 7))⟩]) (.cond (.tmp 8) (.seq (.ops [⟨(some 6), none, (.mv (.const (.one .nilp)))⟩]) .ret) .skip)) (.seq (.seq (.ops [⟨(some 9), none, (.mv (.tmp 2))⟩, ⟨(some 10), none, (.call 94 [(.tmp 9)])⟩, ⟨(some 11), none, (.mv (.const (.one (.int .i64 0))))⟩]) (.block 0 (.loop [0, 1, 10, 11] b59x0))) (.seq (.ops [⟨(some 27), none, (.mv (.tmp 0))⟩, ⟨(some 6), none, (.mv (.tmp 27))⟩]) .ret))))⟩
abbrev T59 : Nat → Callee := (upd none0 94 F94)
def F59 : Callee := evF T59 KK c59
theorem s59 : Sound Go.Proofs.Try.prog 59 F59 := fn_ok (upd_ok (none0_ok _) s94) mixed (by kernel_rfl)
def c60 : AF := ⟨[(0, (some (some 2)))],
  (.seq (.ops [⟨(some 0), none, (.alloc [(.sv (.int .u64 0)), (.sv (.int .u64 0))])⟩]) (.seq (.ops [⟨(some 1), none, (.build [(.sv (.int .u64 0)), (.sv (.int .u64 0))] [((0, 1), (.const (.one (.int .u64 7640891576956012808))))])⟩, ⟨none, none, (.store 2 (.tmp 0) (.tmp 1))⟩]) .ret))⟩
abbrev T60 : Nat → Callee := none0
def F60 : Callee := evF T60 0 c60
theorem s60 : Sound Go.Proofs.Try.prog 60 F60 := fn_ok (none0_ok _) mixed (by kernel_rfl)
def c95 : AF := ⟨[(4, (some (some 2)))],
  (.seq (.ops [⟨(some 2), none, (.box (.tmp 0))⟩, ⟨(some 4), none, (.alloc [(.sv (.int .u64 0)), (.sv (.int .u64 0))])⟩]) (.seq (.ops [⟨(some 6), none, (.fadr 0 (.tmp 2))⟩, ⟨(some 7), none, (.load none (.tmp 6))⟩, ⟨(some 8), none, (.mv (.tmp 1))⟩, ⟨(some 9), none, (.conv .u64 (.tmp 8))⟩, ⟨(some 10), none, (.bin .xor (.tmp 7) (.tmp 9))⟩, ⟨(some 11), none, (.bin .mul (.tmp 10) (.const (.one (.int .u64 11400714819323198485))))⟩, ⟨(some 5), none, (.mv (.tmp 11))⟩]) (.seq (.ops [⟨(some 12), none, (.mv (.tmp 5))⟩, ⟨(some 13), none, (.mv (.tmp 5))⟩, ⟨(some 14), none, (.bin .shr (.tmp 13) (.const (.one (.int .u64 29))))⟩, ⟨(some 15), none, (.bin .xor (.tmp 12) (.tmp 14))⟩, ⟨(some 16), none, (.fadr 1 (.tmp 2))⟩, ⟨(some 17), none, (.load none (.tmp 16))⟩, ⟨(some 18), none, (.bin .add (.tmp 17) (.const (.one (.int .u64 1))))⟩, ⟨(some 19), none, (.build [(.sv (.int .u64 0)), (.sv (.int .u64 0))] [((0, 1), (.tmp 15)), ((1, 1), (.tmp 18))])⟩, ⟨none, none, (.store 2 (.tmp 4) (.tmp 19))⟩]) .ret)))⟩
abbrev T95 : Nat → Callee := none0
def F95 : Callee := evF T95 0 c95
theorem s95 : Sound Go.Proofs.Try.prog 95 F95 := fn_ok (none0_ok _) mixed (by kernel_rfl)
def b61x0 : AC := (.seq (.ops [⟨(some 9), none, (.bin .lss (.tmp 8) (.tmp 7))⟩]) (.seq (.cond (.tmp 9) .skip (.exit 0)) (.seq (.block 1 (.seq (.ops [⟨(some 10), none, (.mv (.tmp 8))⟩, ⟨(some 5), none, (.mv (.tmp 10))⟩]) (.opsD [(⟨(some 11), none, (.load (some 2) (.tmp 2))⟩, false), (⟨(some 12), none, (.mv (.tmp 1))⟩, false), (⟨(some 13), none, (.mv (.tmp 5))⟩, false), (⟨(some 14), none, (.idxS (.tmp 12) (.tmp 13))⟩, false), (⟨(some 15), none, (.call 95 [(.tmp 11), (.tmp 14)])⟩, true), (⟨none, none, (.store 2 (.tmp 2) (.tmp 15))⟩, true)] []))) (.ops [⟨(some 16), none, (.bin .add (.tmp 8) (.const (.one (.int .i64 1))))⟩, ⟨(some 8), none, (.mv (.tmp 16))⟩]))))
def c61 : AF := ⟨[(4, (some (some 2)))],
  (.seq (.ops [⟨(some 2), none, (.box (.tmp 0))⟩, ⟨(some 4), none, (.alloc [(.sv (.int .u64 0)), (.sv (.int .u64 0))])⟩]) (.seq (.seq (.ops [⟨(some 6), none, (.mv (.tmp 1))⟩, ⟨(some 7), none, (.lenS (.tmp 6))⟩, ⟨(some 8), none, (.mv (.const (.one (.int .i64 0))))⟩]) (.block 0 (.loop [1, 2, 4, 7, 8] b61x0))) (.seq (.ops [⟨(some 17), none, (.load (some 2) (.tmp 2))⟩, ⟨none, none, (.store 2 (.tmp 4) (.tmp 17))⟩]) .ret)))⟩
abbrev T61 : Nat → Callee := (upd none0 95 F95)
def F61 : Callee := evF T61 KK c61
theorem s61 : Sound Go.Proofs.Try.prog 61 F61 := fn_ok (upd_ok (none0_ok _) s95) mixed (by kernel_rfl)
def c62 : AF := ⟨[(2, none)],
  (.seq (.ops [⟨(some 1), none, (.box (.tmp 0))⟩, ⟨(some 2), none, (.mv (.const (.one (.int .u64 0))))⟩]) (.seq (.ops [⟨(some 4), none, (.fadr 0 (.tmp 1))⟩, ⟨(some 5), none, (.load none (.tmp 4))⟩, ⟨(some 6), none, (.fadr 1 (.tmp 1))⟩, ⟨(some 7), none, (.load none (.tmp 6))⟩, ⟨(some 8), none, (.bin .add (.tmp 5) (.tmp 7))⟩, ⟨(some 9), none, (.bin .mul (.tmp 8) (.const (.one (.int .u64 13787848793156543929))))⟩, ⟨(some 3), none, (.mv (.tmp 9))⟩]) (.seq (.ops [⟨(some 10), none, (.mv (.tmp 3))⟩, ⟨(some 11), none, (.mv (.tmp 3))⟩, ⟨(some 12), none, (.bin .shr (.tmp 11) (.const (.one (.int .u64 32))))⟩, ⟨(some 13), none, (.bin .xor (.tmp 10) (.tmp 12))⟩, ⟨(some 2), none, (.mv (.tmp 13))⟩]) .ret)))⟩
abbrev T62 : Nat → Callee := none0
def F62 : Callee := evF T62 0 c62
theorem s62 : Sound Go.Proofs.Try.prog 62 F62 := fn_ok (none0_ok _) mixed (by kernel_rfl)
def c63 : AF := ⟨[(4, none)],
  (.seq (.ops [⟨(some 4), none, (.mv (.const (.one .nilp)))⟩]) (.seq (.seq (.ops [⟨(some 5), none, (.mv (.tmp 0))⟩, ⟨(some 6), none, (.eqNil false (.tmp 5))⟩]) (.cond (.tmp 6) (.seq (.ops [⟨(some 4), none, (.mv (.const (.one .nilp)))⟩]) .ret) .skip)) (.seq (.ops [⟨(some 7), none, (.mv (.tmp 0))⟩, ⟨(some 8), none, (.mv (.tmp 0))⟩, ⟨(some 9), none, (.nilCheck (.tmp 8))⟩, ⟨(some 10), none, (.fadr 0 (.tmp 9))⟩, ⟨(some 11), none, (.load none (.tmp 10))⟩, ⟨(some 12), none, (.mv (.tmp 1))⟩, ⟨(some 13), none, (.append (.ints .u8 []) 1 (.tmp 11) (.tmp 12))⟩, ⟨(some 14), none, (.nilCheck (.tmp 7))⟩, ⟨(some 15), none, (.fadr 0 (.tmp 14))⟩, ⟨none, none, (.store 1 (.tmp 15) (.tmp 13))⟩]) (.seq (.ops [⟨(some 16), none, (.mv (.tmp 0))⟩, ⟨(some 4), none, (.mv (.tmp 16))⟩]) .ret))))⟩
abbrev T63 : Nat → Callee := none0
def F63 : Callee := evF T63 0 c63
theorem s63 : Sound Go.Proofs.Try.prog 63 F63 := fn_ok (none0_ok _) mixed (by kernel_rfl)
def c22 : AF := ⟨[(2, none), (3, none)],
  (.seq (.ops [⟨(some 2), none, (.mv (.const (.one (.str ⟨#[]⟩))))⟩, ⟨(some 3), none, (.mv (.const (.one (.int .i64 0))))⟩]) (.seq (.seq (.ops [⟨(some 6), none, (.mv (.tmp 0))⟩, ⟨(some 7), none, (.lenS (.tmp 6))⟩, ⟨(some 8), none, (.bin .gtr (.tmp 7) (.const (.one (.int .i64 512))))⟩]) (.cond (.tmp 8) (.seq (.ops [⟨(some 2), none, (.mv (.const (.one (.str ⟨#[]⟩))))⟩, ⟨(some 3), none, (.mv (.const (.one (.int .i64 5))))⟩]) .ret) .skip)) (.seq (.ops [⟨(some 4), none, (.alloc [(.nil (.ints .u8 []))])⟩]) (.seq (.ops [⟨(some 9), none, (.mv (.tmp 0))⟩, ⟨(some 10), none, (.lenS (.tmp 9))⟩, ⟨(some 11), none, (.conv .u64 (.tmp 10))⟩, ⟨(some 12), none, (.call 57 [(.tmp 4), (.tmp 11)])⟩, ⟨(some 13), none, (.call 58 [(.tmp 12)])⟩, ⟨(some 5), none, (.mv (.tmp 13))⟩]) (.seq (.ops [⟨(some 14), none, (.call 60 [])⟩, ⟨(some 15), none, (.mv (.tmp 5))⟩, ⟨(some 16), none, (.call 61 [(.tmp 14), (.tmp 15)])⟩, ⟨(some 17), none, (.mv (.tmp 0))⟩, ⟨(some 18), none, (.call 61 [(.tmp 16), (.tmp 17)])⟩, ⟨(some 19), none, (.call 62 [(.tmp 18)])⟩, ⟨(some 20), none, (.call 59 [(.tmp 4), (.tmp 19), (.const (.one (.int .i64 8)))])⟩, ⟨(some 21), none, (.mv (.tmp 0))⟩, ⟨(some 22), none, (.call 63 [(.tmp 20), (.tmp 21)])⟩, ⟨(some 23), none, (.call 58 [(.tmp 22)])⟩, ⟨(some 2), none, (.mv (.tmp 23))⟩, ⟨(some 3), none, (.mv (.const (.one (.int .i64 0))))⟩]) .ret)))))⟩
abbrev T22 : Nat → Callee := (upd (upd (upd (upd (upd (upd (upd none0 57 F57) 58 F58) 59 F59) 60 F60) 61 F61) 62 F62) 63 F63)
def F22 : Callee := evF T22 0 c22
theorem s22 : Sound Go.Proofs.Try.prog 22 F22 := fn_ok (upd_ok (upd_ok (upd_ok (upd_ok (upd_ok (upd_ok (upd_ok (none0_ok _) s57) s58) s59) s60) s61) s62) s63) mixed (by kernel_rfl)
def F12 : Callee := Go.Proofs.wr12 F22
theorem s12 : Sound Go.Proofs.Try.prog 12 F12 := Go.Proofs.w12 s22
def c78 : AF := ⟨[(2, none)],
  (.seq (.ops [⟨(some 2), none, (.mv (.const (.one .nilp)))⟩]) (.seq (.ops [⟨(some 3), none, (.mv (.tmp 0))⟩, ⟨(some 4), none, (.build [(.sv (.str ⟨#[]⟩)), (.sv (.bool false))] [((0, 1), (.tmp 3))])⟩, ⟨(some 5), none, (.box (.tmp 4))⟩, ⟨(some 2), none, (.mv (.tmp 5))⟩]) .ret))⟩
abbrev T78 : Nat → Callee := none0
def F78 : Callee := evF T78 0 c78
theorem s78 : Sound Go.Proofs.Try.prog 78 F78 := fn_ok (none0_ok _) mixed (by kernel_rfl)
def c82 : AF := ⟨[(2, none)],
  (.seq (.ops [⟨(some 2), none, (.mv (.const (.one (.bool false))))⟩]) (.seq (.ops [⟨(some 3), none, (.mv (.tmp 0))⟩, ⟨(some 4), none, (.eqNil false (.tmp 3))⟩, ⟨(some 5), none, (.mv (.tmp 4))⟩, ⟨(some 6), (some (5, false)), (.mv (.tmp 0))⟩, ⟨(some 7), (some (5, false)), (.nilCheck (.tmp 6))⟩, ⟨(some 8), (some (5, false)), (.fadr 1 (.tmp 7))⟩, ⟨(some 9), (some (5, false)), (.load none (.tmp 8))⟩, ⟨(some 10), none, (.pick (.tmp 5) (.const (.one (.bool true))) (.tmp 9))⟩, ⟨(some 2), none, (.mv (.tmp 10))⟩]) .ret))⟩
abbrev T82 : Nat → Callee := none0
def F82 : Callee := evF T82 0 c82
theorem s82 : Sound Go.Proofs.Try.prog 82 F82 := fn_ok (none0_ok _) mixed (by kernel_rfl)
def c99 : AF := ⟨[],
  (.seq (.ops [⟨(some 2), none, (.mv (.tmp 0))⟩, ⟨(some 3), none, (.eqNil true (.tmp 2))⟩]) (.cond (.tmp 3) (.ops [⟨(some 4), none, (.mv (.tmp 0))⟩, ⟨(some 5), none, (.mv (.tmp 0))⟩, ⟨(some 6), none, (.nilCheck (.tmp 4))⟩, ⟨(some 7), none, (.fadr 0 (.tmp 6))⟩, ⟨none, none, (.store 1 (.tmp 7) (.const (.one (.str ⟨#[]⟩))))⟩, ⟨(some 8), none, (.nilCheck (.tmp 5))⟩, ⟨(some 9), none, (.fadr 1 (.tmp 8))⟩, ⟨none, none, (.store 1 (.tmp 9) (.const (.one (.bool true))))⟩]) .skip))⟩
abbrev T99 : Nat → Callee := none0
def F99 : Callee := evF T99 0 c99
theorem s99 : Sound Go.Proofs.Try.prog 99 F99 := fn_ok (none0_ok _) mixed (by kernel_rfl)
def c81 : AF := ⟨[(4, none)],
  (.seq (.ops [⟨(some 4), none, (.mv (.const (.one (.str ⟨#[]⟩))))⟩]) (.seq (.ops [⟨(some 6), none, (.mv (.tmp 1))⟩, ⟨(some 7), none, (.max [(.tmp 6), (.const (.one (.int .i64 0)))])⟩, ⟨(some 1), none, (.mv (.tmp 7))⟩]) (.seq (.seq (.ops [⟨(some 8), none, (.mv (.tmp 0))⟩, ⟨(some 9), none, (.call 82 [(.tmp 8)])⟩, ⟨(some 10), none, (.mv (.tmp 9))⟩, ⟨(some 11), (some (10, false)), (.mv (.tmp 0))⟩, ⟨(some 12), (some (10, false)), (.nilCheck (.tmp 11))⟩, ⟨(some 13), (some (10, false)), (.fadr 0 (.tmp 12))⟩, ⟨(some 14), (some (10, false)), (.load none (.tmp 13))⟩, ⟨(some 15), (some (10, false)), (.lenS (.tmp 14))⟩, ⟨(some 16), (some (10, false)), (.mv (.tmp 1))⟩, ⟨(some 17), (some (10, false)), (.bin .lss (.tmp 15) (.tmp 16))⟩, ⟨(some 18), none, (.pick (.tmp 10) (.const (.one (.bool true))) (.tmp 17))⟩]) (.cond (.tmp 18) (.seq (.ops [⟨(some 19), none, (.mv (.tmp 0))⟩, ⟨(some 20), none, (.call 99 [(.tmp 19)])⟩]) (.seq (.ops [⟨(some 4), none, (.mv (.const (.one (.str ⟨#[]⟩))))⟩]) .ret)) .skip)) (.seq (.ops [⟨(some 21), none, (.mv (.tmp 0))⟩, ⟨(some 22), none, (.nilCheck (.tmp 21))⟩, ⟨(some 23), none, (.fadr 0 (.tmp 22))⟩, ⟨(some 24), none, (.load none (.tmp 23))⟩, ⟨(some 25), none, (.mv (.tmp 1))⟩, ⟨(some 26), none, (.cutS (.tmp 24) none (some (.tmp 25)))⟩, ⟨(some 5), none, (.mv (.tmp 26))⟩]) (.seq (.ops [⟨(some 27), none, (.mv (.tmp 0))⟩, ⟨(some 28), none, (.mv (.tmp 0))⟩, ⟨(some 29), none, (.nilCheck (.tmp 28))⟩, ⟨(some 30), none, (.fadr 0 (.tmp 29))⟩, ⟨(some 31), none, (.load none (.tmp 30))⟩, ⟨(some 32), none, (.mv (.tmp 1))⟩, ⟨(some 33), none, (.cutS (.tmp 31) (some (.tmp 32)) none)⟩, ⟨(some 34), none, (.nilCheck (.tmp 27))⟩, ⟨(some 35), none, (.fadr 0 (.tmp 34))⟩, ⟨none, none, (.store 1 (.tmp 35) (.tmp 33))⟩]) (.seq (.ops [⟨(some 36), none, (.mv (.tmp 5))⟩, ⟨(some 4), none, (.mv (.tmp 36))⟩]) .ret))))))⟩
abbrev T81 : Nat → Callee := (upd (upd none0 82 F82) 99 F99)
def F81 : Callee := evF T81 0 c81
theorem s81 : Sound Go.Proofs.Try.prog 81 F81 := fn_ok (upd_ok (upd_ok (none0_ok _) s82) s99) mixed (by kernel_rfl)
def b98x0 : AC := (.seq (.ops [⟨(some 8), none, (.bin .lss (.tmp 7) (.const (.one (.int .i64 10))))⟩]) (.seq (.cond (.tmp 8) .skip (.exit 0)) (.seq (.block 1 (.seq (.ops [⟨(some 9), none, (.mv (.tmp 7))⟩, ⟨(some 4), none, (.mv (.tmp 9))⟩]) (.seq (.ops [⟨(some 10), none, (.mv (.tmp 0))⟩, ⟨(some 11), none, (.call 81 [(.tmp 10), (.const (.one (.int .i64 1)))])⟩, ⟨(some 5), none, (.mv (.tmp 11))⟩]) (.seq (.seq (.ops [⟨(some 12), none, (.mv (.tmp 5))⟩, ⟨(some 13), none, (.bin .eql (.tmp 12) (.const (.one (.str ⟨#[]⟩))))⟩]) (.cond (.tmp 13) (.seq (.ops [⟨(some 2), none, (.mv (.const (.one (.int .u64 0))))⟩]) .ret) .skip)) (.seq (.ops [⟨(some 14), none, (.mv (.tmp 5))⟩, ⟨(some 15), none, (.idxS (.tmp 14) (.const (.one (.int .i64 0))))⟩, ⟨(some 16), none, (.conv .u64 (.tmp 15))⟩, ⟨(some 6), none, (.mv (.tmp 16))⟩]) (.seq (.seq (.ops [⟨(some 17), none, (.mv (.tmp 4))⟩, ⟨(some 18), none, (.bin .eql (.tmp 17) (.const (.one (.int .i64 9))))⟩, ⟨(some 19), none, (.mv (.tmp 18))⟩, ⟨(some 20), (some (19, true)), (.mv (.tmp 6))⟩, ⟨(some 21), (some (19, true)), (.bin .gtr (.tmp 20) (.const (.one (.int .u64 1))))⟩, ⟨(some 22), none, (.pick (.tmp 19) (.tmp 21) (.const (.one (.bool false))))⟩, ⟨(some 23), none, (.mv (.tmp 22))⟩, ⟨(some 24), (some (23, false)), (.mv (.tmp 4))⟩, ⟨(some 25), (some (23, false)), (.bin .gtr (.tmp 24) (.const (.one (.int .i64 0))))⟩, ⟨(some 26), (some (23, false)), (.mv (.tmp 25))⟩, ⟨(some 27), (some (26, true)), (.mv (.tmp 6))⟩, ⟨(some 28), (some (26, true)), (.bin .eql (.tmp 27) (.const (.one (.int .u64 0))))⟩, ⟨(some 29), (some (23, false)), (.pick (.tmp 26) (.tmp 28) (.const (.one (.bool false))))⟩, ⟨(some 30), none, (.pick (.tmp 23) (.const (.one (.bool true))) (.tmp 29))⟩]) (.cond (.tmp 30) (.exit 0) .skip)) (.seq (.ops [⟨(some 31), none, (.mv (.tmp 3))⟩, ⟨(some 32), none, (.mv (.tmp 6))⟩, ⟨(some 33), none, (.bin .and (.tmp 32) (.const (.one (.int .u64 127))))⟩, ⟨(some 34), none, (.mv (.tmp 4))⟩, ⟨(some 35), none, (.bin .mul (.const (.one (.int .i64 7))) (.tmp 34))⟩, ⟨(some 36), none, (.bin .shl (.tmp 33) (.tmp 35))⟩, ⟨(some 37), none, (.bin .or (.tmp 31) (.tmp 36))⟩, ⟨(some 3), none, (.mv (.tmp 37))⟩]) (.seq (.ops [⟨(some 38), none, (.mv (.tmp 6))⟩, ⟨(some 39), none, (.bin .lss (.tmp 38) (.const (.one (.int .u64 128))))⟩]) (.cond (.tmp 39) (.seq (.ops [⟨(some 40), none, (.mv (.tmp 3))⟩, ⟨(some 2), none, (.mv (.tmp 40))⟩]) .ret) .skip))))))))) (.ops [⟨(some 41), none, (.bin .add (.tmp 7) (.const (.one (.int .i64 1))))⟩, ⟨(some 7), none, (.mv (.tmp 41))⟩]))))
def c98 : AF := ⟨[(2, none)],
  (.seq (.ops [⟨(some 2), none, (.mv (.const (.one (.int .u64 0))))⟩]) (.seq (.ops [⟨(some 3), none, (.mv (.const (.one (.int .u64 0))))⟩]) (.seq (.seq (.ops [⟨(some 7), none, (.mv (.const (.one (.int .i64 0))))⟩]) (.block 0 (.loop [0, 3, 7] b98x0))) (.seq (.ops [⟨(some 42), none, (.mv (.tmp 0))⟩, ⟨(some 43), none, (.call 99 [(.tmp 42)])⟩]) (.seq (.ops [⟨(some 2), none, (.mv (.const (.one (.int .u64 0))))⟩]) .ret)))))⟩
abbrev T98 : Nat → Callee := (upd (upd none0 81 F81) 99 F99)
def F98 : Callee := evF T98 KK c98
theorem s98 : Sound Go.Proofs.Try.prog 98 F98 := fn_ok (upd_ok (upd_ok (none0_ok _) s81) s99) mixed (by kernel_rfl)
def c79 : AF := ⟨[(4, none)],
  (.seq (.ops [⟨(some 4), none, (.mv (.const (.one (.int .i64 0))))⟩]) (.seq (.ops [⟨(some 6), none, (.mv (.tmp 0))⟩, ⟨(some 7), none, (.call 98 [(.tmp 6)])⟩, ⟨(some 5), none, (.mv (.tmp 7))⟩]) (.seq (.seq (.ops [⟨(some 8), none, (.mv (.tmp 0))⟩, ⟨(some 9), none, (.call 82 [(.tmp 8)])⟩, ⟨(some 10), none, (.mv (.tmp 9))⟩, ⟨(some 11), (some (10, false)), (.mv (.tmp 1))⟩, ⟨(some 12), (some (10, false)), (.bin .lss (.tmp 11) (.const (.one (.int .i64 0))))⟩, ⟨(some 13), none, (.pick (.tmp 10) (.const (.one (.bool true))) (.tmp 12))⟩, ⟨(some 14), none, (.mv (.tmp 13))⟩, ⟨(some 15), (some (14, false)), (.mv (.tmp 5))⟩, ⟨(some 16), (some (14, false)), (.mv (.tmp 1))⟩, ⟨(some 17), (some (14, false)), (.conv .u64 (.tmp 16))⟩, ⟨(some 18), (some (14, false)), (.bin .gtr (.tmp 15) (.tmp 17))⟩, ⟨(some 19), none, (.pick (.tmp 14) (.const (.one (.bool true))) (.tmp 18))⟩]) (.cond (.tmp 19) (.seq (.ops [⟨(some 20), none, (.mv (.tmp 0))⟩, ⟨(some 21), none, (.call 99 [(.tmp 20)])⟩]) (.seq (.ops [⟨(some 4), none, (.mv (.const (.one (.int .i64 0))))⟩]) .ret)) .skip)) (.seq (.ops [⟨(some 22), none, (.mv (.tmp 5))⟩, ⟨(some 23), none, (.conv .i64 (.tmp 22))⟩, ⟨(some 4), none, (.mv (.tmp 23))⟩]) .ret))))⟩
abbrev T79 : Nat → Callee := (upd (upd (upd none0 82 F82) 98 F98) 99 F99)
def F79 : Callee := evF T79 0 c79
theorem s79 : Sound Go.Proofs.Try.prog 79 F79 := fn_ok (upd_ok (upd_ok (upd_ok (none0_ok _) s82) s98) s99) mixed (by kernel_rfl)
def b80x0 : AC := (.seq (.ops [⟨(some 15), none, (.bin .lss (.tmp 14) (.tmp 13))⟩]) (.seq (.cond (.tmp 15) .skip (.exit 0)) (.seq (.block 1 (.seq (.ops [⟨(some 16), none, (.mv (.tmp 14))⟩, ⟨(some 17), none, (.iadrR 1 (.tmp 12) (.tmp 14))⟩, ⟨(some 18), none, (.load none (.tmp 17))⟩, ⟨(some 6), none, (.mv (.tmp 16))⟩, ⟨(some 7), none, (.mv (.tmp 18))⟩]) (.ops [⟨(some 19), none, (.mv (.tmp 5))⟩, ⟨(some 20), none, (.mv (.tmp 7))⟩, ⟨(some 21), none, (.conv .u64 (.tmp 20))⟩, ⟨(some 22), none, (.mv (.tmp 6))⟩, ⟨(some 23), none, (.bin .mul (.const (.one (.int .i64 8))) (.tmp 22))⟩, ⟨(some 24), none, (.bin .shl (.tmp 21) (.tmp 23))⟩, ⟨(some 25), none, (.bin .or (.tmp 19) (.tmp 24))⟩, ⟨(some 5), none, (.mv (.tmp 25))⟩]))) (.ops [⟨(some 26), none, (.bin .add (.tmp 14) (.const (.one (.int .i64 1))))⟩, ⟨(some 14), none, (.mv (.tmp 26))⟩]))))
def c80 : AF := ⟨[(4, none)],
  (.seq (.ops [⟨(some 4), none, (.mv (.const (.one (.int .u64 0))))⟩]) (.seq (.ops [⟨(some 5), none, (.mv (.const (.one (.int .u64 0))))⟩]) (.seq (.seq (.ops [⟨(some 8), none, (.mv (.tmp 0))⟩, ⟨(some 9), none, (.mv (.tmp 1))⟩, ⟨(some 10), none, (.call 94 [(.tmp 9)])⟩, ⟨(some 11), none, (.call 81 [(.tmp 8), (.tmp 10)])⟩, ⟨(some 12), none, (.s2b (.tmp 11))⟩, ⟨(some 13), none, (.len (.tmp 12))⟩, ⟨(some 14), none, (.mv (.const (.one (.int .i64 0))))⟩]) (.block 0 (.loop [5, 12, 13, 14] b80x0))) (.seq (.ops [⟨(some 27), none, (.mv (.tmp 5))⟩, ⟨(some 4), none, (.mv (.tmp 27))⟩]) .ret))))⟩
abbrev T80 : Nat → Callee := (upd (upd none0 81 F81) 94 F94)
def F80 : Callee := evF T80 KK c80
theorem s80 : Sound Go.Proofs.Try.prog 80 F80 := fn_ok (upd_ok (upd_ok (none0_ok _) s81) s94) mixed (by kernel_rfl)
def c83 : AF := ⟨[(2, none)],
  (.seq (.ops [⟨(some 2), none, (.mv (.const (.one (.str ⟨#[]⟩))))⟩]) (.seq (.seq (.ops [⟨(some 3), none, (.mv (.tmp 0))⟩, ⟨(some 4), none, (.call 82 [(.tmp 3)])⟩]) (.cond (.tmp 4) (.seq (.ops [⟨(some 2), none, (.mv (.const (.one (.str ⟨#[]⟩))))⟩]) .ret) .skip)) (.seq (.ops [⟨(some 5), none, (.mv (.tmp 0))⟩, ⟨(some 6), none, (.mv (.tmp 0))⟩, ⟨(some 7), none, (.nilCheck (.tmp 6))⟩, ⟨(some 8), none, (.fadr 0 (.tmp 7))⟩, ⟨(some 9), none, (.load none (.tmp 8))⟩, ⟨(some 10), none, (.lenS (.tmp 9))⟩, ⟨(some 11), none, (.call 81 [(.tmp 5), (.tmp 10)])⟩, ⟨(some 2), none, (.mv (.tmp 11))⟩]) .ret)))⟩
abbrev T83 : Nat → Callee := (upd (upd none0 81 F81) 82 F82)
def F83 : Callee := evF T83 0 c83
theorem s83 : Sound Go.Proofs.Try.prog 83 F83 := fn_ok (upd_ok (upd_ok (none0_ok _) s81) s82) mixed (by kernel_rfl)
def c36 : AF := ⟨[(2, none), (3, none), (4, none)],
  (.seq (.ops [⟨(some 2), none, (.mv (.const (.one (.str ⟨#[]⟩))))⟩, ⟨(some 3), none, (.mv (.const (.one (.str ⟨#[]⟩))))⟩, ⟨(some 4), none, (.mv (.const (.one (.bool false))))⟩]) (.seq (.ops [⟨(some 12), none, (.mv (.tmp 0))⟩, ⟨(some 13), none, (.call 78 [(.tmp 12)])⟩, ⟨(some 5), none, (.mv (.tmp 13))⟩]) (.seq (.ops [⟨(some 14), none, (.mv (.tmp 5))⟩, ⟨(some 15), none, (.call 79 [(.tmp 14), (.const (.one (.int .i64 512)))])⟩, ⟨(some 6), none, (.mv (.tmp 15))⟩]) (.seq (.ops [⟨(some 16), none, (.mv (.tmp 5))⟩, ⟨(some 17), none, (.call 80 [(.tmp 16), (.const (.one (.int .i64 8)))])⟩, ⟨(some 7), none, (.mv (.tmp 17))⟩]) (.seq (.ops [⟨(some 18), none, (.mv (.tmp 5))⟩, ⟨(some 19), none, (.mv (.tmp 6))⟩, ⟨(some 20), none, (.call 81 [(.tmp 18), (.tmp 19)])⟩, ⟨(some 8), none, (.mv (.tmp 20))⟩]) (.seq (.seq (.ops [⟨(some 21), none, (.mv (.tmp 5))⟩, ⟨(some 22), none, (.call 82 [(.tmp 21)])⟩]) (.cond (.tmp 22) (.seq (.ops [⟨(some 2), none, (.mv (.const (.one (.str ⟨#[]⟩))))⟩, ⟨(some 3), none, (.mv (.const (.one (.str ⟨#[]⟩))))⟩, ⟨(some 4), none, (.mv (.const (.one (.bool false))))⟩]) .ret) .skip)) (.seq (.ops [⟨(some 23), none, (.mv (.tmp 5))⟩, ⟨(some 24), none, (.call 83 [(.tmp 23)])⟩, ⟨(some 9), none, (.mv (.tmp 24))⟩]) (.seq (.seq (.ops [⟨(some 26), none, (.mv (.tmp 8))⟩, ⟨(some 27), none, (.call 22 [(.tmp 26)])⟩, ⟨(some 25), none, (.mv (.tmp 27))⟩, ⟨(some 28), none, (.extract 0 (.tmp 25))⟩, ⟨(some 29), none, (.extract 1 (.tmp 25))⟩, ⟨(some 10), none, (.mv (.tmp 28))⟩, ⟨(some 11), none, (.mv (.tmp 29))⟩]) (.seq (.ops [⟨(some 30), none, (.mv (.tmp 10))⟩, ⟨(some 31), none, (.mv (.tmp 10))⟩, ⟨(some 32), none, (.lenS (.tmp 31))⟩, ⟨(some 33), none, (.mv (.tmp 8))⟩, ⟨(some 34), none, (.lenS (.tmp 33))⟩, ⟨(some 35), none, (.bin .sub (.tmp 32) (.tmp 34))⟩, ⟨(some 36), none, (.bin .sub (.tmp 35) (.const (.one (.int .i64 8))))⟩, ⟨(some 37), none, (.cutS (.tmp 30) (some (.tmp 36)) none)⟩, ⟨(some 38), none, (.call 78 [(.tmp 37)])⟩, ⟨(some 39), none, (.call 80 [(.tmp 38), (.const (.one (.int .i64 8)))])⟩, ⟨(some 40), none, (.mv (.tmp 7))⟩, ⟨(some 41), none, (.bin .neq (.tmp 39) (.tmp 40))⟩]) (.cond (.tmp 41) (.seq (.ops [⟨(some 2), none, (.mv (.const (.one (.str ⟨#[]⟩))))⟩, ⟨(some 3), none, (.mv (.const (.one (.str ⟨#[]⟩))))⟩, ⟨(some 4), none, (.mv (.const (.one (.bool false))))⟩]) .ret) .skip))) (.seq (.ops [⟨(some 42), none, (.mv (.tmp 8))⟩, ⟨(some 43), none, (.mv (.tmp 9))⟩, ⟨(some 2), none, (.mv (.tmp 42))⟩, ⟨(some 3), none, (.mv (.tmp 43))⟩, ⟨(some 4), none, (.mv (.const (.one (.bool true))))⟩]) .ret)))))))))⟩
abbrev T36 : Nat → Callee := (upd (upd (upd (upd (upd (upd (upd none0 22 F22) 78 F78) 79 F79) 80 F80) 81 F81) 82 F82) 83 F83)
def F36 : Callee := evF T36 0 c36
theorem s36 : Sound Go.Proofs.Try.prog 36 F36 := fn_ok (upd_ok (upd_ok (upd_ok (upd_ok (upd_ok (upd_ok (upd_ok (none0_ok _) s22) s78) s79) s80) s81) s82) s83) mixed (by kernel_rfl)
def b10x0 : AC := (.block 1 (.seq (.ops [⟨(some 12), none, (.mv (.tmp 0))⟩, ⟨(some 13), none, (.call 36 [(.tmp 12)])⟩, ⟨(some 11), none, (.mv (.tmp 13))⟩, ⟨(some 14), none, (.extract 0 (.tmp 11))⟩, ⟨(some 15), none, (.extract 1 (.tmp 11))⟩, ⟨(some 16), none, (.extract 2 (.tmp 11))⟩, ⟨(some 6), none, (.mv (.tmp 14))⟩, ⟨(some 7), none, (.mv (.tmp 15))⟩, ⟨(some 8), none, (.mv (.tmp 16))⟩]) (.seq (.seq (.ops [⟨(some 17), none, (.mv (.tmp 8))⟩, ⟨(some 18), none, (.un .not (.tmp 17))⟩]) (.cond (.tmp 18) (.seq (.ops [⟨(some 19), none, (.mv (.tmp 4))⟩, ⟨(some 20), none, (.mv (.tmp 5))⟩, ⟨(some 21), none, (.mv (.tmp 0))⟩, ⟨(some 22), none, (.lenS (.tmp 21))⟩, ⟨(some 23), none, (.bin .sub (.tmp 20) (.tmp 22))⟩, ⟨(some 2), none, (.mv (.tmp 19))⟩, ⟨(some 3), none, (.mv (.tmp 23))⟩]) .ret) .skip)) (.ops [⟨(some 24), none, (.mv (.tmp 4))⟩, ⟨(some 25), none, (.mv (.tmp 6))⟩, ⟨(some 26), none, (.bslice (.strs []) [(.str ⟨#[]⟩)] 1 [(0, (.tmp 25))])⟩, ⟨(some 27), none, (.append (.strs []) 16 (.tmp 24) (.tmp 26))⟩, ⟨(some 28), none, (.mv (.tmp 7))⟩, ⟨(some 4), none, (.mv (.tmp 27))⟩, ⟨(some 0), none, (.mv (.tmp 28))⟩]))))
def c10 : AF := ⟨[(2, none), (3, none)],
  (.seq (.ops [⟨(some 2), none, (.newNil (.strs []))⟩, ⟨(some 3), none, (.mv (.const (.one (.int .i64 0))))⟩]) (.seq (.ops [⟨(some 4), none, (.newNil (.strs []))⟩]) (.seq (.ops [⟨(some 9), none, (.mv (.tmp 0))⟩, ⟨(some 10), none, (.lenS (.tmp 9))⟩, ⟨(some 5), none, (.mv (.tmp 10))⟩]) (.block 0 (.loop [0, 4, 5] b10x0)))))⟩
abbrev T10 : Nat → Callee := (upd none0 36 F36)
def F10 : Callee := evF T10 KK c10
theorem s10 : Sound Go.Proofs.Try.prog 10 F10 := fn_ok (upd_ok (none0_ok _) s36) mixed (by kernel_rfl)
def b14x0 : AC := (.seq (.seq (.opsD [(⟨(some 20), none, (.mv (.tmp 9))⟩, false), (⟨(some 21), none, (.mv (.tmp 5))⟩, false), (⟨(some 22), none, (.len (.tmp 21))⟩, false), (⟨(some 23), none, (.mv (.tmp 7))⟩, false), (⟨(some 24), none, (.len (.tmp 23))⟩, false), (⟨(some 25), none, (.min [(.tmp 22), (.tmp 24)])⟩, false), (⟨(some 26), none, (.bin .lss (.tmp 20) (.tmp 25))⟩, false), (⟨(some 27), none, (.mv (.tmp 26))⟩, false), (⟨(some 28), (some (27, true)), (.mv (.tmp 5))⟩, false), (⟨(some 29), (some (27, true)), (.mv (.tmp 9))⟩, false), (⟨(some 30), (some (27, true)), (.iadrR 1 (.tmp 28) (.tmp 29))⟩, false), (⟨(some 31), (some (27, true)), (.load none (.tmp 30))⟩, false), (⟨(some 32), (some (27, true)), (.mv (.tmp 7))⟩, false), (⟨(some 33), (some (27, true)), (.mv (.tmp 9))⟩, false), (⟨(some 34), (some (27, true)), (.iadrR 1 (.tmp 32) (.tmp 33))⟩, false), (⟨(some 35), (some (27, true)), (.load none (.tmp 34))⟩, false), (⟨(some 36), (some (27, true)), (.bin .eql (.tmp 31) (.tmp 35))⟩, false), (⟨(some 37), none, (.pick (.tmp 27) (.tmp 36) (.const (.one (.bool false))))⟩, false)] []) (.cond (.tmp 37) .skip (.exit 0))) (.block 1 (.ops [⟨(some 38), none, (.mv (.tmp 9))⟩, ⟨(some 39), none, (.bin .add (.tmp 38) (.const (.one (.int .i64 1))))⟩, ⟨(some 9), none, (.mv (.tmp 39))⟩])))
def c14 : AF := ⟨[(4, none)],
  (.seq (.ops [⟨(some 4), none, (.mv (.const (.one (.int .i64 0))))⟩]) (.seq (.ops [⟨(some 11), none, (.mv (.tmp 0))⟩, ⟨(some 12), none, (.call 10 [(.tmp 11)])⟩, ⟨(some 10), none, (.mv (.tmp 12))⟩, ⟨(some 13), none, (.extract 0 (.tmp 10))⟩, ⟨(some 14), none, (.extract 1 (.tmp 10))⟩, ⟨(some 5), none, (.mv (.tmp 13))⟩, ⟨(some 6), none, (.mv (.tmp 14))⟩]) (.seq (.ops [⟨(some 16), none, (.mv (.tmp 1))⟩, ⟨(some 17), none, (.call 10 [(.tmp 16)])⟩, ⟨(some 15), none, (.mv (.tmp 17))⟩, ⟨(some 18), none, (.extract 0 (.tmp 15))⟩, ⟨(some 19), none, (.extract 1 (.tmp 15))⟩, ⟨(some 7), none, (.mv (.tmp 18))⟩, ⟨(some 8), none, (.mv (.tmp 19))⟩]) (.seq (.ops [⟨(some 9), none, (.mv (.const (.one (.int .i64 0))))⟩]) (.seq (.block 0 (.loop [5, 7, 9] b14x0)) (.seq (.ops [⟨(some 40), none, (.mv (.tmp 9))⟩, ⟨(some 4), none, (.mv (.tmp 40))⟩]) .ret))))))⟩
abbrev T14 : Nat → Callee := (upd none0 10 F10)
def F14 : Callee := evF T14 KK c14
theorem s14 : Sound Go.Proofs.Try.prog 14 F14 := fn_ok (upd_ok (none0_ok _) s10) mixed (by kernel_rfl)
def c24 : AF := ⟨[(2, none)],
  (.seq (.ops [⟨(some 2), none, (.mv (.const (.one .nilp)))⟩]) (.seq (.ops [⟨(some 6), none, (.mv (.tmp 0))⟩, ⟨(some 7), none, (.call 10 [(.tmp 6)])⟩, ⟨(some 5), none, (.mv (.tmp 7))⟩, ⟨(some 8), none, (.extract 0 (.tmp 5))⟩, ⟨(some 9), none, (.extract 1 (.tmp 5))⟩, ⟨(some 3), none, (.mv (.tmp 8))⟩, ⟨(some 4), none, (.mv (.tmp 9))⟩]) (.seq (.ops [⟨(some 10), none, (.mv (.tmp 3))⟩, ⟨(some 11), none, (.mv (.tmp 0))⟩, ⟨(some 12), none, (.mv (.tmp 4))⟩, ⟨(some 13), none, (.cutS (.tmp 11) none (some (.tmp 12)))⟩, ⟨(some 14), none, (.build [(.nil (.strs [])), (.sv (.str ⟨#[]⟩))] [((0, 1), (.tmp 10)), ((1, 1), (.tmp 13))])⟩, ⟨(some 15), none, (.box (.tmp 14))⟩, ⟨(some 2), none, (.mv (.tmp 15))⟩]) .ret)))⟩
abbrev T24 : Nat → Callee := (upd none0 10 F10)
def F24 : Callee := evF T24 0 c24
theorem s24 : Sound Go.Proofs.Try.prog 24 F24 := fn_ok (upd_ok (none0_ok _) s10) mixed (by kernel_rfl)
def c25 : AF := ⟨[(4, none)],
  (.seq (.ops [⟨(some 4), none, (.mv (.const (.one (.int .i64 0))))⟩]) (.seq (.seq (.ops [⟨(some 5), none, (.mv (.tmp 0))⟩, ⟨(some 6), none, (.eqNil false (.tmp 5))⟩]) (.cond (.tmp 6) (.seq (.ops [⟨(some 4), none, (.mv (.const (.one (.int .i64 0))))⟩]) .ret) .skip)) (.seq (.opsD [(⟨(some 7), none, (.mv (.tmp 0))⟩, false), (⟨(some 8), none, (.mv (.tmp 0))⟩, false), (⟨(some 9), none, (.nilCheck (.tmp 8))⟩, false), (⟨(some 10), none, (.fadr 1 (.tmp 9))⟩, false), (⟨(some 11), none, (.load none (.tmp 10))⟩, false), (⟨(some 12), none, (.mv (.tmp 1))⟩, false), (⟨(some 13), none, (.max [(.tmp 12), (.const (.one (.int .i64 0)))])⟩, false), (⟨(some 14), none, (.mv (.tmp 0))⟩, false), (⟨(some 15), none, (.nilCheck (.tmp 14))⟩, false), (⟨(some 16), none, (.fadr 1 (.tmp 15))⟩, false), (⟨(some 17), none, (.load none (.tmp 16))⟩, false), (⟨(some 18), none, (.lenS (.tmp 17))⟩, false), (⟨(some 19), none, (.min [(.tmp 13), (.tmp 18)])⟩, false), (⟨(some 20), none, (.cutS (.tmp 11) none (some (.tmp 19)))⟩, false), (⟨(some 21), none, (.call 24 [(.tmp 20)])⟩, true), (⟨(some 22), none, (.nilCheck (.tmp 21))⟩, false), (⟨(some 23), none, (.load (some 2) (.tmp 22))⟩, false), (⟨(some 24), none, (.nilCheck (.tmp 7))⟩, false), (⟨none, none, (.store 2 (.tmp 24) (.tmp 23))⟩, true)] []) (.seq (.ops [⟨(some 25), none, (.mv (.tmp 0))⟩, ⟨(some 26), none, (.nilCheck (.tmp 25))⟩, ⟨(some 27), none, (.fadr 0 (.tmp 26))⟩, ⟨(some 28), none, (.load none (.tmp 27))⟩, ⟨(some 29), none, (.len (.tmp 28))⟩, ⟨(some 4), none, (.mv (.tmp 29))⟩]) .ret))))⟩
abbrev T25 : Nat → Callee := (upd none0 24 F24)
def F25 : Callee := evF T25 0 c25
theorem s25 : Sound Go.Proofs.Try.prog 25 F25 := fn_ok (upd_ok (none0_ok _) s24) mixed (by kernel_rfl)
def c27 : AF := ⟨[(2, none)],
  (.seq (.ops [⟨(some 2), none, (.mv (.const (.one (.str ⟨#[]⟩))))⟩]) (.seq (.seq (.ops [⟨(some 3), none, (.mv (.tmp 0))⟩, ⟨(some 4), none, (.eqNil false (.tmp 3))⟩]) (.cond (.tmp 4) (.seq (.ops [⟨(some 2), none, (.mv (.const (.one (.str ⟨#[]⟩))))⟩]) .ret) .skip)) (.seq (.ops [⟨(some 5), none, (.mv (.tmp 0))⟩, ⟨(some 6), none, (.nilCheck (.tmp 5))⟩, ⟨(some 7), none, (.fadr 1 (.tmp 6))⟩, ⟨(some 8), none, (.load none (.tmp 7))⟩, ⟨(some 2), none, (.mv (.tmp 8))⟩]) .ret)))⟩
abbrev T27 : Nat → Callee := none0
def F27 : Callee := evF T27 0 c27
theorem s27 : Sound Go.Proofs.Try.prog 27 F27 := fn_ok (none0_ok _) mixed (by kernel_rfl)
def c32 : AF := ⟨[(2, none)],
  (.seq (.ops [⟨(some 2), none, (.mv (.const (.one (.int .i64 0))))⟩]) (.seq (.seq (.ops [⟨(some 3), none, (.mv (.tmp 0))⟩, ⟨(some 4), none, (.eqNil false (.tmp 3))⟩]) (.cond (.tmp 4) (.seq (.ops [⟨(some 2), none, (.mv (.const (.one (.int .i64 0))))⟩]) .ret) .skip)) (.seq (.ops [⟨(some 5), none, (.mv (.tmp 0))⟩, ⟨(some 6), none, (.nilCheck (.tmp 5))⟩, ⟨(some 7), none, (.fadr 0 (.tmp 6))⟩, ⟨(some 8), none, (.load none (.tmp 7))⟩, ⟨(some 9), none, (.len (.tmp 8))⟩, ⟨(some 2), none, (.mv (.tmp 9))⟩]) .ret)))⟩
abbrev T32 : Nat → Callee := none0
def F32 : Callee := evF T32 0 c32
theorem s32 : Sound Go.Proofs.Try.prog 32 F32 := fn_ok (none0_ok _) mixed (by kernel_rfl)
def c9 : AF := ⟨[(0, none)],
  (.seq (.ops [⟨(some 0), none, (.mv (.const (.one (.bool false))))⟩]) (.seq (.ops [⟨(some 6), none, (.bslice (.strs []) [(.str ⟨#[]⟩)] 2 [(0, (.const (.one (.str ⟨#[97]⟩)))), (1, (.const (.one (.str ⟨#[98, 99]⟩))))])⟩, ⟨(some 7), none, (.call 12 [(.tmp 6)])⟩, ⟨(some 5), none, (.mv (.tmp 7))⟩, ⟨(some 8), none, (.extract 0 (.tmp 5))⟩, ⟨(some 9), none, (.extract 1 (.tmp 5))⟩, ⟨(some 1), none, (.mv (.tmp 8))⟩, ⟨(some 2), none, (.mv (.tmp 9))⟩]) (.seq (.ops [⟨(some 10), none, (.mv (.tmp 1))⟩, ⟨(some 11), none, (.call 24 [(.tmp 10)])⟩, ⟨(some 3), none, (.mv (.tmp 11))⟩]) (.seq (.ops [⟨(some 12), none, (.mv (.tmp 3))⟩, ⟨(some 13), none, (.call 32 [(.tmp 12)])⟩, ⟨(some 4), none, (.mv (.tmp 13))⟩]) (.seq (.ops [⟨(some 14), none, (.mv (.tmp 2))⟩, ⟨(some 15), none, (.bin .eql (.tmp 14) (.const (.one (.int .i64 0))))⟩, ⟨(some 16), none, (.mv (.tmp 15))⟩, ⟨(some 17), (some (16, true)), (.mv (.tmp 1))⟩, ⟨(some 18), (some (16, true)), (.lenS (.tmp 17))⟩, ⟨(some 19), (some (16, true)), (.bin .eql (.tmp 18) (.const (.one (.int .i64 21))))⟩, ⟨(some 20), none, (.pick (.tmp 16) (.tmp 19) (.const (.one (.bool false))))⟩, ⟨(some 21), none, (.mv (.tmp 20))⟩, ⟨(some 22), (some (21, true)), (.mv (.tmp 4))⟩, ⟨(some 23), (some (21, true)), (.bin .eql (.tmp 22) (.const (.one (.int .i64 2))))⟩, ⟨(some 24), none, (.pick (.tmp 21) (.tmp 23) (.const (.one (.bool false))))⟩, ⟨(some 25), none, (.mv (.tmp 24))⟩, ⟨(some 26), (some (25, true)), (.mv (.tmp 3))⟩, ⟨(some 27), (some (25, true)), (.call 25 [(.tmp 26), (.const (.one (.int .i64 20)))])⟩, ⟨(some 28), (some (25, true)), (.bin .eql (.tmp 27) (.const (.one (.int .i64 1))))⟩, ⟨(some 29), none, (.pick (.tmp 25) (.tmp 28) (.const (.one (.bool false))))⟩, ⟨(some 30), none, (.mv (.tmp 29))⟩, ⟨(some 31), (some (30, true)), (.mv (.tmp 3))⟩, ⟨(some 32), (some (30, true)), (.call 32 [(.tmp 31)])⟩, ⟨(some 33), (some (30, true)), (.bin .eql (.tmp 32) (.const (.one (.int .i64 1))))⟩, ⟨(some 34), none, (.pick (.tmp 30) (.tmp 33) (.const (.one (.bool false))))⟩, ⟨(some 35), none, (.mv (.tmp 34))⟩, ⟨(some 36), (some (35, true)), (.mv (.tmp 1))⟩, ⟨(some 37), (some (35, true)), (.mv (.tmp 3))⟩, ⟨(some 38), (some (35, true)), (.call 27 [(.tmp 37)])⟩, ⟨(some 39), (some (35, true)), (.call 14 [(.tmp 36), (.tmp 38)])⟩, ⟨(some 40), (some (35, true)), (.bin .eql (.tmp 39) (.const (.one (.int .i64 1))))⟩, ⟨(some 41), none, (.pick (.tmp 35) (.tmp 40) (.const (.one (.bool false))))⟩, ⟨(some 0), none, (.mv (.tmp 41))⟩]) .ret)))))⟩
abbrev T9 : Nat → Callee := (upd (upd (upd (upd (upd (upd none0 12 F12) 14 F14) 24 F24) 25 F25) 27 F27) 32 F32)
def F9 : Callee := evF T9 0 c9
theorem s9 : Sound Go.Proofs.Try.prog 9 F9 := fn_ok (upd_ok (upd_ok (upd_ok (upd_ok (upd_ok (upd_ok (none0_ok _) s12) s14) s24) s25) s27) s32) mixed (by kernel_rfl)
def b64x0 : AC := (.seq (.seq (.ops [⟨(some 4), none, (.mv (.tmp 0))⟩, ⟨(some 5), none, (.bin .geq (.tmp 4) (.const (.one (.int .u64 128))))⟩]) (.cond (.tmp 5) .skip (.exit 0))) (.block 1 (.seq (.ops [⟨(some 6), none, (.mv (.tmp 3))⟩, ⟨(some 7), none, (.mv (.tmp 0))⟩, ⟨(some 8), none, (.bin .rem (.tmp 7) (.const (.one (.int .u64 128))))⟩, ⟨(some 9), none, (.bin .add (.tmp 8) (.const (.one (.int .u64 128))))⟩, ⟨(some 10), none, (.conv .u8 (.tmp 9))⟩, ⟨(some 11), none, (.bslice (.ints .u8 []) [(.int .u8 0)] 1 [(0, (.tmp 10))])⟩, ⟨(some 12), none, (.b2s (.tmp 11))⟩, ⟨(some 13), none, (.bin .add (.tmp 6) (.tmp 12))⟩, ⟨(some 3), none, (.mv (.tmp 13))⟩]) (.ops [⟨(some 14), none, (.mv (.tmp 0))⟩, ⟨(some 15), none, (.bin .quo (.tmp 14) (.const (.one (.int .u64 128))))⟩, ⟨(some 0), none, (.mv (.tmp 15))⟩]))))
def c64 : AF := ⟨[(2, none)],
  (.seq (.ops [⟨(some 2), none, (.mv (.const (.one (.str ⟨#[]⟩))))⟩]) (.seq (.ops [⟨(some 3), none, (.mv (.const (.one (.str ⟨#[]⟩))))⟩]) (.seq (.block 0 (.loop [0, 3] b64x0)) (.seq (.ops [⟨(some 16), none, (.mv (.tmp 3))⟩, ⟨(some 17), none, (.mv (.tmp 0))⟩, ⟨(some 18), none, (.conv .u8 (.tmp 17))⟩, ⟨(some 19), none, (.bslice (.ints .u8 []) [(.int .u8 0)] 1 [(0, (.tmp 18))])⟩, ⟨(some 20), none, (.b2s (.tmp 19))⟩, ⟨(some 21), none, (.bin .add (.tmp 16) (.tmp 20))⟩, ⟨(some 2), none, (.mv (.tmp 21))⟩]) .ret))))⟩
abbrev T64 : Nat → Callee := none0
def F64 : Callee := evF T64 KK c64
theorem s64 : Sound Go.Proofs.Try.prog 64 F64 := fn_ok (none0_ok _) mixed (by kernel_rfl)
def b65x0 : AC := (.seq (.seq (.ops [⟨(some 7), none, (.mv (.tmp 6))⟩, ⟨(some 8), none, (.mv (.tmp 1))⟩, ⟨(some 9), none, (.bin .lss (.tmp 7) (.tmp 8))⟩, ⟨(some 10), none, (.mv (.tmp 9))⟩, ⟨(some 11), (some (10, true)), (.mv (.tmp 6))⟩, ⟨(some 12), (some (10, true)), (.bin .lss (.tmp 11) (.const (.one (.int .i64 8))))⟩, ⟨(some 13), none, (.pick (.tmp 10) (.tmp 12) (.const (.one (.bool false))))⟩]) (.cond (.tmp 13) .skip (.exit 0))) (.seq (.block 1 (.seq (.ops [⟨(some 16), none, (.mv (.tmp 5))⟩, ⟨(some 17), none, (.mv (.tmp 0))⟩, ⟨(some 18), none, (.bin .rem (.tmp 17) (.const (.one (.int .u64 256))))⟩, ⟨(some 19), none, (.conv .u8 (.tmp 18))⟩, ⟨(some 20), none, (.bslice (.ints .u8 []) [(.int .u8 0)] 1 [(0, (.tmp 19))])⟩, ⟨(some 21), none, (.b2s (.tmp 20))⟩, ⟨(some 22), none, (.bin .add (.tmp 16) (.tmp 21))⟩, ⟨(some 5), none, (.mv (.tmp 22))⟩]) (.ops [⟨(some 23), none, (.mv (.tmp 0))⟩, ⟨(some 24), none, (.bin .quo (.tmp 23) (.const (.one (.int .u64 256))))⟩, ⟨(some 0), none, (.mv (.tmp 24))⟩]))) (.ops [⟨(some 14), none, (.mv (.tmp 6))⟩, ⟨(some 15), none, (.bin .add (.tmp 14) (.const (.one (.int .i64 1))))⟩, ⟨(some 6), none, (.mv (.tmp 15))⟩])))
def c65 : AF := ⟨[(4, none)],
  (.seq (.ops [⟨(some 4), none, (.mv (.const (.one (.str ⟨#[]⟩))))⟩]) (.seq (.ops [⟨(some 5), none, (.mv (.const (.one (.str ⟨#[]⟩))))⟩]) (.seq (.seq (.ops [⟨(some 6), none, (.mv (.const (.one (.int .i64 0))))⟩]) (.block 0 (.loop [0, 1, 5, 6] b65x0))) (.seq (.ops [⟨(some 25), none, (.mv (.tmp 5))⟩, ⟨(some 4), none, (.mv (.tmp 25))⟩]) .ret))))⟩
abbrev T65 : Nat → Callee := none0
def F65 : Callee := evF T65 KK c65
theorem s65 : Sound Go.Proofs.Try.prog 65 F65 := fn_ok (none0_ok _) mixed (by kernel_rfl)
def b66x0 : AC := (.seq (.seq (.ops [⟨(some 5), none, (.mv (.tmp 4))⟩, ⟨(some 6), none, (.mv (.tmp 0))⟩, ⟨(some 7), none, (.lenS (.tmp 6))⟩, ⟨(some 8), none, (.bin .lss (.tmp 5) (.tmp 7))⟩]) (.cond (.tmp 8) .skip (.exit 0))) (.seq (.block 1 (.seq (.ops [⟨(some 11), none, (.mv (.tmp 3))⟩, ⟨(some 12), none, (.mv (.tmp 0))⟩, ⟨(some 13), none, (.mv (.tmp 4))⟩, ⟨(some 14), none, (.idxS (.tmp 12) (.tmp 13))⟩, ⟨(some 15), none, (.conv .u64 (.tmp 14))⟩, ⟨(some 16), none, (.bin .xor (.tmp 11) (.tmp 15))⟩, ⟨(some 3), none, (.mv (.tmp 16))⟩]) (.seq (.ops [⟨(some 17), none, (.mv (.tmp 3))⟩, ⟨(some 18), none, (.bin .mul (.tmp 17) (.const (.one (.int .u64 11400714819323198485))))⟩, ⟨(some 3), none, (.mv (.tmp 18))⟩]) (.ops [⟨(some 19), none, (.mv (.tmp 3))⟩, ⟨(some 20), none, (.mv (.tmp 3))⟩, ⟨(some 21), none, (.bin .quo (.tmp 20) (.const (.one (.int .u64 536870912))))⟩, ⟨(some 22), none, (.bin .xor (.tmp 19) (.tmp 21))⟩, ⟨(some 3), none, (.mv (.tmp 22))⟩])))) (.ops [⟨(some 9), none, (.mv (.tmp 4))⟩, ⟨(some 10), none, (.bin .add (.tmp 9) (.const (.one (.int .i64 1))))⟩, ⟨(some 4), none, (.mv (.tmp 10))⟩])))
def c66 : AF := ⟨[(2, none)],
  (.seq (.ops [⟨(some 2), none, (.mv (.const (.one (.int .u64 0))))⟩]) (.seq (.ops [⟨(some 3), none, (.mv (.const (.one (.int .u64 7640891576956012808))))⟩]) (.seq (.seq (.ops [⟨(some 4), none, (.mv (.const (.one (.int .i64 0))))⟩]) (.block 0 (.loop [0, 3, 4] b66x0))) (.seq (.ops [⟨(some 23), none, (.mv (.tmp 3))⟩, ⟨(some 24), none, (.mv (.tmp 0))⟩, ⟨(some 25), none, (.lenS (.tmp 24))⟩, ⟨(some 26), none, (.conv .u64 (.tmp 25))⟩, ⟨(some 27), none, (.bin .add (.tmp 23) (.tmp 26))⟩, ⟨(some 3), none, (.mv (.tmp 27))⟩]) (.seq (.ops [⟨(some 28), none, (.mv (.tmp 3))⟩, ⟨(some 29), none, (.bin .mul (.tmp 28) (.const (.one (.int .u64 13787848793156543929))))⟩, ⟨(some 3), none, (.mv (.tmp 29))⟩]) (.seq (.ops [⟨(some 30), none, (.mv (.tmp 3))⟩, ⟨(some 31), none, (.mv (.tmp 3))⟩, ⟨(some 32), none, (.bin .quo (.tmp 31) (.const (.one (.int .u64 4294967296))))⟩, ⟨(some 33), none, (.bin .xor (.tmp 30) (.tmp 32))⟩, ⟨(some 2), none, (.mv (.tmp 33))⟩]) .ret))))))⟩
abbrev T66 : Nat → Callee := none0
def F66 : Callee := evF T66 KK c66
theorem s66 : Sound Go.Proofs.Try.prog 66 F66 := fn_ok (none0_ok _) mixed (by kernel_rfl)
def c23 : AF := ⟨[(2, none)],
  (.seq (.ops [⟨(some 2), none, (.mv (.const (.one (.str ⟨#[]⟩))))⟩]) (.seq (.ops [⟨(some 4), none, (.mv (.tmp 0))⟩, ⟨(some 5), none, (.lenS (.tmp 4))⟩, ⟨(some 6), none, (.conv .u64 (.tmp 5))⟩, ⟨(some 7), none, (.call 64 [(.tmp 6)])⟩, ⟨(some 3), none, (.mv (.tmp 7))⟩]) (.seq (.ops [⟨(some 8), none, (.mv (.tmp 3))⟩, ⟨(some 9), none, (.mv (.tmp 3))⟩, ⟨(some 10), none, (.mv (.tmp 0))⟩, ⟨(some 11), none, (.bin .add (.tmp 9) (.tmp 10))⟩, ⟨(some 12), none, (.call 66 [(.tmp 11)])⟩, ⟨(some 13), none, (.call 65 [(.tmp 12), (.const (.one (.int .i64 8)))])⟩, ⟨(some 14), none, (.bin .add (.tmp 8) (.tmp 13))⟩, ⟨(some 15), none, (.mv (.tmp 0))⟩, ⟨(some 16), none, (.bin .add (.tmp 14) (.tmp 15))⟩, ⟨(some 2), none, (.mv (.tmp 16))⟩]) .ret)))⟩
abbrev T23 : Nat → Callee := (upd (upd (upd none0 64 F64) 65 F65) 66 F66)
def F23 : Callee := evF T23 0 c23
theorem s23 : Sound Go.Proofs.Try.prog 23 F23 := fn_ok (upd_ok (upd_ok (upd_ok (none0_ok _) s64) s65) s66) mixed (by kernel_rfl)
def b37x0 : AC := (.seq (.seq (.ops [⟨(some 7), none, (.mv (.tmp 4))⟩, ⟨(some 8), none, (.mv (.tmp 0))⟩, ⟨(some 9), none, (.lenS (.tmp 8))⟩, ⟨(some 10), none, (.bin .lss (.tmp 7) (.tmp 9))⟩, ⟨(some 11), none, (.mv (.tmp 10))⟩, ⟨(some 12), (some (11, true)), (.mv (.tmp 0))⟩, ⟨(some 13), (some (11, true)), (.mv (.tmp 4))⟩, ⟨(some 14), (some (11, true)), (.idxS (.tmp 12) (.tmp 13))⟩, ⟨(some 15), (some (11, true)), (.bin .geq (.tmp 14) (.const (.one (.int .u8 128))))⟩, ⟨(some 16), none, (.pick (.tmp 11) (.tmp 15) (.const (.one (.bool false))))⟩]) (.cond (.tmp 16) .skip (.exit 0))) (.block 1 (.ops [⟨(some 17), none, (.mv (.tmp 4))⟩, ⟨(some 18), none, (.bin .add (.tmp 17) (.const (.one (.int .i64 1))))⟩, ⟨(some 4), none, (.mv (.tmp 18))⟩])))
def b37x1 : AC := (.seq (.seq (.ops [⟨(some 28), none, (.mv (.tmp 6))⟩, ⟨(some 29), none, (.bin .geq (.tmp 28) (.const (.one (.int .i64 0))))⟩]) (.cond (.tmp 29) .skip (.exit 2))) (.seq (.block 3 (.seq (.seq (.ops [⟨(some 32), none, (.mv (.tmp 5))⟩, ⟨(some 33), none, (.bin .gtr (.tmp 32) (.const (.one (.int .u64 144115188075855871))))⟩]) (.cond (.tmp 33) (.seq (.ops [⟨(some 2), none, (.mv (.const (.one (.int .u64 0))))⟩, ⟨(some 3), none, (.mv (.const (.one (.int .i64 0))))⟩]) .ret) .skip)) (.ops [⟨(some 34), none, (.mv (.tmp 5))⟩, ⟨(some 35), none, (.bin .mul (.tmp 34) (.const (.one (.int .u64 128))))⟩, ⟨(some 36), none, (.mv (.tmp 0))⟩, ⟨(some 37), none, (.mv (.tmp 6))⟩, ⟨(some 38), none, (.idxS (.tmp 36) (.tmp 37))⟩, ⟨(some 39), none, (.bin .rem (.tmp 38) (.const (.one (.int .u8 128))))⟩, ⟨(some 40), none, (.conv .u64 (.tmp 39))⟩, ⟨(some 41), none, (.bin .add (.tmp 35) (.tmp 40))⟩, ⟨(some 5), none, (.mv (.tmp 41))⟩]))) (.ops [⟨(some 30), none, (.mv (.tmp 6))⟩, ⟨(some 31), none, (.bin .sub (.tmp 30) (.const (.one (.int .i64 1))))⟩, ⟨(some 6), none, (.mv (.tmp 31))⟩])))
def c37 : AF := ⟨[(2, none), (3, none)],
  (.seq (.ops [⟨(some 2), none, (.mv (.const (.one (.int .u64 0))))⟩, ⟨(some 3), none, (.mv (.const (.one (.int .i64 0))))⟩]) (.seq (.ops [⟨(some 4), none, (.mv (.const (.one (.int .i64 0))))⟩]) (.seq (.block 0 (.loop [0, 4] b37x0)) (.seq (.seq (.ops [⟨(some 19), none, (.mv (.tmp 4))⟩, ⟨(some 20), none, (.mv (.tmp 0))⟩, ⟨(some 21), none, (.lenS (.tmp 20))⟩, ⟨(some 22), none, (.bin .eql (.tmp 19) (.tmp 21))⟩, ⟨(some 23), none, (.mv (.tmp 22))⟩, ⟨(some 24), (some (23, false)), (.mv (.tmp 4))⟩, ⟨(some 25), (some (23, false)), (.bin .gtr (.tmp 24) (.const (.one (.int .i64 9))))⟩, ⟨(some 26), none, (.pick (.tmp 23) (.const (.one (.bool true))) (.tmp 25))⟩]) (.cond (.tmp 26) (.seq (.ops [⟨(some 2), none, (.mv (.const (.one (.int .u64 0))))⟩, ⟨(some 3), none, (.mv (.const (.one (.int .i64 0))))⟩]) .ret) .skip)) (.seq (.ops [⟨(some 5), none, (.mv (.const (.one (.int .u64 0))))⟩]) (.seq (.seq (.ops [⟨(some 27), none, (.mv (.tmp 4))⟩, ⟨(some 6), none, (.mv (.tmp 27))⟩]) (.block 2 (.loop [0, 4, 5, 6] b37x1))) (.seq (.seq (.opsD [(⟨(some 42), none, (.mv (.tmp 5))⟩, false), (⟨(some 43), none, (.call 64 [(.tmp 42)])⟩, true), (⟨(some 44), none, (.mv (.tmp 0))⟩, false), (⟨(some 45), none, (.mv (.tmp 4))⟩, false), (⟨(some 46), none, (.bin .add (.tmp 45) (.const (.one (.int .i64 1))))⟩, false), (⟨(some 47), none, (.cutS (.tmp 44) none (some (.tmp 46)))⟩, false), (⟨(some 48), none, (.bin .neq (.tmp 43) (.tmp 47))⟩, false)] []) (.cond (.tmp 48) (.seq (.ops [⟨(some 2), none, (.mv (.const (.one (.int .u64 0))))⟩, ⟨(some 3), none, (.mv (.const (.one (.int .i64 0))))⟩]) .ret) .skip)) (.seq (.ops [⟨(some 49), none, (.mv (.tmp 5))⟩, ⟨(some 50), none, (.mv (.tmp 4))⟩, ⟨(some 51), none, (.bin .add (.tmp 50) (.const (.one (.int .i64 1))))⟩, ⟨(some 2), none, (.mv (.tmp 49))⟩, ⟨(some 3), none, (.mv (.tmp 51))⟩]) .ret))))))))⟩
abbrev T37 : Nat → Callee := (upd none0 64 F64)
def F37 : Callee := evF T37 KK c37
theorem s37 : Sound Go.Proofs.Try.prog 37 F37 := fn_ok (upd_ok (none0_ok _) s64) mixed (by kernel_rfl)
def b11x0 : AC := (.block 1 (.seq (.ops [⟨(some 10), none, (.mv (.tmp 0))⟩, ⟨(some 11), none, (.mv (.tmp 5))⟩, ⟨(some 12), none, (.cutS (.tmp 10) (some (.tmp 11)) none)⟩, ⟨(some 13), none, (.call 37 [(.tmp 12)])⟩, ⟨(some 9), none, (.mv (.tmp 13))⟩, ⟨(some 14), none, (.extract 0 (.tmp 9))⟩, ⟨(some 15), none, (.extract 1 (.tmp 9))⟩, ⟨(some 6), none, (.mv (.tmp 14))⟩, ⟨(some 7), none, (.mv (.tmp 15))⟩]) (.seq (.seq (.ops [⟨(some 16), none, (.mv (.tmp 7))⟩, ⟨(some 17), none, (.bin .eql (.tmp 16) (.const (.one (.int .i64 0))))⟩, ⟨(some 18), none, (.mv (.tmp 17))⟩, ⟨(some 19), (some (18, false)), (.mv (.tmp 6))⟩, ⟨(some 20), (some (18, false)), (.bin .gtr (.tmp 19) (.const (.one (.int .u64 512))))⟩, ⟨(some 21), none, (.pick (.tmp 18) (.const (.one (.bool true))) (.tmp 20))⟩, ⟨(some 22), none, (.mv (.tmp 21))⟩, ⟨(some 23), (some (22, false)), (.mv (.tmp 0))⟩, ⟨(some 24), (some (22, false)), (.lenS (.tmp 23))⟩, ⟨(some 25), (some (22, false)), (.mv (.tmp 5))⟩, ⟨(some 26), (some (22, false)), (.bin .sub (.tmp 24) (.tmp 25))⟩, ⟨(some 27), (some (22, false)), (.mv (.tmp 7))⟩, ⟨(some 28), (some (22, false)), (.bin .sub (.tmp 26) (.tmp 27))⟩, ⟨(some 29), (some (22, false)), (.bin .sub (.tmp 28) (.const (.one (.int .i64 8))))⟩, ⟨(some 30), (some (22, false)), (.mv (.tmp 6))⟩, ⟨(some 31), (some (22, false)), (.conv .i64 (.tmp 30))⟩, ⟨(some 32), (some (22, false)), (.bin .lss (.tmp 29) (.tmp 31))⟩, ⟨(some 33), none, (.pick (.tmp 22) (.const (.one (.bool true))) (.tmp 32))⟩]) (.cond (.tmp 33) (.seq (.ops [⟨(some 34), none, (.mv (.tmp 4))⟩, ⟨(some 35), none, (.mv (.tmp 5))⟩, ⟨(some 2), none, (.mv (.tmp 34))⟩, ⟨(some 3), none, (.mv (.tmp 35))⟩]) .ret) .skip)) (.seq (.ops [⟨(some 36), none, (.mv (.tmp 0))⟩, ⟨(some 37), none, (.mv (.tmp 5))⟩, ⟨(some 38), none, (.mv (.tmp 7))⟩, ⟨(some 39), none, (.bin .add (.tmp 37) (.tmp 38))⟩, ⟨(some 40), none, (.bin .add (.tmp 39) (.const (.one (.int .i64 8))))⟩, ⟨(some 41), none, (.mv (.tmp 5))⟩, ⟨(some 42), none, (.mv (.tmp 7))⟩, ⟨(some 43), none, (.bin .add (.tmp 41) (.tmp 42))⟩, ⟨(some 44), none, (.bin .add (.tmp 43) (.const (.one (.int .i64 8))))⟩, ⟨(some 45), none, (.mv (.tmp 6))⟩, ⟨(some 46), none, (.conv .i64 (.tmp 45))⟩, ⟨(some 47), none, (.bin .add (.tmp 44) (.tmp 46))⟩, ⟨(some 48), none, (.cutS (.tmp 36) (some (.tmp 40)) (some (.tmp 47)))⟩, ⟨(some 8), none, (.mv (.tmp 48))⟩]) (.seq (.seq (.opsD [(⟨(some 49), none, (.mv (.tmp 8))⟩, false), (⟨(some 50), none, (.call 23 [(.tmp 49)])⟩, true), (⟨(some 51), none, (.mv (.tmp 0))⟩, false), (⟨(some 52), none, (.mv (.tmp 5))⟩, false), (⟨(some 53), none, (.mv (.tmp 5))⟩, false), (⟨(some 54), none, (.mv (.tmp 7))⟩, false), (⟨(some 55), none, (.bin .add (.tmp 53) (.tmp 54))⟩, false), (⟨(some 56), none, (.bin .add (.tmp 55) (.const (.one (.int .i64 8))))⟩, false), (⟨(some 57), none, (.mv (.tmp 6))⟩, false), (⟨(some 58), none, (.conv .i64 (.tmp 57))⟩, false), (⟨(some 59), none, (.bin .add (.tmp 56) (.tmp 58))⟩, false), (⟨(some 60), none, (.cutS (.tmp 51) (some (.tmp 52)) (some (.tmp 59)))⟩, false), (⟨(some 61), none, (.bin .neq (.tmp 50) (.tmp 60))⟩, false)] []) (.cond (.tmp 61) (.seq (.ops [⟨(some 62), none, (.mv (.tmp 4))⟩, ⟨(some 63), none, (.mv (.tmp 5))⟩, ⟨(some 2), none, (.mv (.tmp 62))⟩, ⟨(some 3), none, (.mv (.tmp 63))⟩]) .ret) .skip)) (.seq (.ops [⟨(some 64), none, (.mv (.tmp 4))⟩, ⟨(some 65), none, (.mv (.tmp 8))⟩, ⟨(some 66), none, (.bslice (.strs []) [(.str ⟨#[]⟩)] 1 [(0, (.tmp 65))])⟩, ⟨(some 67), none, (.append (.strs []) 16 (.tmp 64) (.tmp 66))⟩, ⟨(some 4), none, (.mv (.tmp 67))⟩]) (.ops [⟨(some 68), none, (.mv (.tmp 5))⟩, ⟨(some 69), none, (.mv (.tmp 7))⟩, ⟨(some 70), none, (.bin .add (.tmp 68) (.tmp 69))⟩, ⟨(some 71), none, (.bin .add (.tmp 70) (.const (.one (.int .i64 8))))⟩, ⟨(some 72), none, (.mv (.tmp 6))⟩, ⟨(some 73), none, (.conv .i64 (.tmp 72))⟩, ⟨(some 74), none, (.bin .add (.tmp 71) (.tmp 73))⟩, ⟨(some 5), none, (.mv (.tmp 74))⟩])))))))
def c11 : AF := ⟨[(2, none), (3, none)],
  (.seq (.ops [⟨(some 2), none, (.newNil (.strs []))⟩, ⟨(some 3), none, (.mv (.const (.one (.int .i64 0))))⟩]) (.seq (.ops [⟨(some 4), none, (.newNil (.strs []))⟩]) (.seq (.ops [⟨(some 5), none, (.mv (.const (.one (.int .i64 0))))⟩]) (.block 0 (.loop [0, 4, 5] b11x0)))))⟩
abbrev T11 : Nat → Callee := (upd (upd none0 23 F23) 37 F37)
def F11 : Callee := evF T11 KK c11
theorem s11 : Sound Go.Proofs.Try.prog 11 F11 := fn_ok (upd_ok (upd_ok (none0_ok _) s23) s37) mixed (by kernel_rfl)
def b13x0 : AC := (.seq (.ops [⟨(some 14), none, (.bin .lss (.tmp 13) (.tmp 12))⟩]) (.seq (.cond (.tmp 14) .skip (.exit 0)) (.seq (.block 1 (.seq (.ops [⟨(some 15), none, (.mv (.tmp 13))⟩, ⟨(some 5), none, (.mv (.tmp 15))⟩]) (.seq (.opsD [(⟨(some 16), none, (.mv (.tmp 0))⟩, false), (⟨(some 17), none, (.mv (.tmp 5))⟩, false), (⟨(some 18), none, (.iadrR 1 (.tmp 16) (.tmp 17))⟩, false), (⟨(some 19), none, (.load none (.tmp 18))⟩, false), (⟨(some 20), none, (.mv (.tmp 1))⟩, false), (⟨(some 21), none, (.mv (.tmp 5))⟩, false), (⟨(some 22), none, (.iadrR 1 (.tmp 20) (.tmp 21))⟩, false), (⟨(some 23), none, (.load none (.tmp 22))⟩, false), (⟨(some 24), none, (.bin .neq (.tmp 19) (.tmp 23))⟩, false)] []) (.cond (.tmp 24) (.seq (.ops [⟨(some 4), none, (.mv (.const (.one (.bool false))))⟩]) .ret) .skip)))) (.ops [⟨(some 25), none, (.bin .add (.tmp 13) (.const (.one (.int .i64 1))))⟩, ⟨(some 13), none, (.mv (.tmp 25))⟩]))))
def c13 : AF := ⟨[(4, none)],
  (.seq (.ops [⟨(some 4), none, (.mv (.const (.one (.bool false))))⟩]) (.seq (.seq (.ops [⟨(some 6), none, (.mv (.tmp 0))⟩, ⟨(some 7), none, (.len (.tmp 6))⟩, ⟨(some 8), none, (.mv (.tmp 1))⟩, ⟨(some 9), none, (.len (.tmp 8))⟩, ⟨(some 10), none, (.bin .neq (.tmp 7) (.tmp 9))⟩]) (.cond (.tmp 10) (.seq (.ops [⟨(some 4), none, (.mv (.const (.one (.bool false))))⟩]) .ret) .skip)) (.seq (.seq (.ops [⟨(some 11), none, (.mv (.tmp 0))⟩, ⟨(some 12), none, (.len (.tmp 11))⟩, ⟨(some 13), none, (.mv (.const (.one (.int .i64 0))))⟩]) (.block 0 (.loop [0, 1, 12, 13] b13x0))) (.seq (.ops [⟨(some 4), none, (.mv (.const (.one (.bool true))))⟩]) .ret))))⟩
abbrev T13 : Nat → Callee := none0
def F13 : Callee := evF T13 KK c13
theorem s13 : Sound Go.Proofs.Try.prog 13 F13 := fn_ok (none0_ok _) mixed (by kernel_rfl)
def b3x0 : AC := (.seq (.seq (.opsD [(⟨(some 44), none, (.mv (.tmp 13))⟩, false), (⟨(some 45), none, (.mv (.tmp 7))⟩, false), (⟨(some 46), none, (.len (.tmp 45))⟩, false), (⟨(some 47), none, (.mv (.tmp 11))⟩, false), (⟨(some 48), none, (.len (.tmp 47))⟩, false), (⟨(some 49), none, (.min [(.tmp 46), (.tmp 48)])⟩, false), (⟨(some 50), none, (.bin .lss (.tmp 44) (.tmp 49))⟩, false), (⟨(some 51), none, (.mv (.tmp 50))⟩, false), (⟨(some 52), (some (51, true)), (.mv (.tmp 7))⟩, false), (⟨(some 53), (some (51, true)), (.mv (.tmp 13))⟩, false), (⟨(some 54), (some (51, true)), (.iadrR 1 (.tmp 52) (.tmp 53))⟩, false), (⟨(some 55), (some (51, true)), (.load none (.tmp 54))⟩, false), (⟨(some 56), (some (51, true)), (.mv (.tmp 11))⟩, false), (⟨(some 57), (some (51, true)), (.mv (.tmp 13))⟩, false), (⟨(some 58), (some (51, true)), (.iadrR 1 (.tmp 56) (.tmp 57))⟩, false), (⟨(some 59), (some (51, true)), (.load none (.tmp 58))⟩, false), (⟨(some 60), (some (51, true)), (.bin .eql (.tmp 55) (.tmp 59))⟩, false), (⟨(some 61), none, (.pick (.tmp 51) (.tmp 60) (.const (.one (.bool false))))⟩, false)] []) (.cond (.tmp 61) .skip (.exit 0))) (.block 1 (.ops [⟨(some 62), none, (.mv (.tmp 13))⟩, ⟨(some 63), none, (.bin .add (.tmp 62) (.const (.one (.int .i64 1))))⟩, ⟨(some 13), none, (.mv (.tmp 63))⟩])))
def c3 : AF := ⟨[(4, none)],
  (.seq (.ops [⟨(some 4), none, (.mv (.const (.one (.bool false))))⟩]) (.seq (.seq (.ops [⟨(some 14), none, (.call 9 [])⟩, ⟨(some 15), none, (.un .not (.tmp 14))⟩]) (.cond (.tmp 15) (.seq (.ops [⟨(some 4), none, (.mv (.const (.one (.bool false))))⟩]) .ret) .skip)) (.seq (.seq (.ops [⟨(some 16), none, (.mv (.tmp 0))⟩, ⟨(some 17), none, (.lenS (.tmp 16))⟩, ⟨(some 18), none, (.bin .gtr (.tmp 17) (.const (.one (.int .i64 200))))⟩, ⟨(some 19), none, (.mv (.tmp 18))⟩, ⟨(some 20), (some (19, false)), (.mv (.tmp 1))⟩, ⟨(some 21), (some (19, false)), (.lenS (.tmp 20))⟩, ⟨(some 22), (some (19, false)), (.bin .gtr (.tmp 21) (.const (.one (.int .i64 200))))⟩, ⟨(some 23), none, (.pick (.tmp 19) (.const (.one (.bool true))) (.tmp 22))⟩]) (.cond (.tmp 23) (.seq (.ops [⟨(some 4), none, (.mv (.const (.one (.bool true))))⟩]) .ret) .skip)) (.seq (.ops [⟨(some 25), none, (.mv (.tmp 0))⟩, ⟨(some 26), none, (.call 10 [(.tmp 25)])⟩, ⟨(some 24), none, (.mv (.tmp 26))⟩, ⟨(some 27), none, (.extract 0 (.tmp 24))⟩, ⟨(some 28), none, (.extract 1 (.tmp 24))⟩, ⟨(some 5), none, (.mv (.tmp 27))⟩, ⟨(some 6), none, (.mv (.tmp 28))⟩]) (.seq (.ops [⟨(some 30), none, (.mv (.tmp 0))⟩, ⟨(some 31), none, (.call 11 [(.tmp 30)])⟩, ⟨(some 29), none, (.mv (.tmp 31))⟩, ⟨(some 32), none, (.extract 0 (.tmp 29))⟩, ⟨(some 33), none, (.extract 1 (.tmp 29))⟩, ⟨(some 7), none, (.mv (.tmp 32))⟩, ⟨(some 8), none, (.mv (.tmp 33))⟩]) (.seq (.ops [⟨(some 35), none, (.mv (.tmp 5))⟩, ⟨(some 36), none, (.call 12 [(.tmp 35)])⟩, ⟨(some 34), none, (.mv (.tmp 36))⟩, ⟨(some 37), none, (.extract 0 (.tmp 34))⟩, ⟨(some 38), none, (.extract 1 (.tmp 34))⟩, ⟨(some 9), none, (.mv (.tmp 37))⟩, ⟨(some 10), none, (.mv (.tmp 38))⟩]) (.seq (.ops [⟨(some 40), none, (.mv (.tmp 1))⟩, ⟨(some 41), none, (.call 11 [(.tmp 40)])⟩, ⟨(some 39), none, (.mv (.tmp 41))⟩, ⟨(some 42), none, (.extract 0 (.tmp 39))⟩, ⟨(some 43), none, (.extract 1 (.tmp 39))⟩, ⟨(some 11), none, (.mv (.tmp 42))⟩, ⟨(some 12), none, (.mv (.tmp 43))⟩]) (.seq (.ops [⟨(some 13), none, (.mv (.const (.one (.int .i64 0))))⟩]) (.seq (.block 0 (.loop [0, 1, 5, 6, 7, 8, 9, 10, 11, 13] b3x0)) (.seq (.ops [⟨(some 64), none, (.mv (.tmp 5))⟩, ⟨(some 65), none, (.mv (.tmp 7))⟩, ⟨(some 66), none, (.call 13 [(.tmp 64), (.tmp 65)])⟩, ⟨(some 67), none, (.mv (.tmp 66))⟩, ⟨(some 68), (some (67, true)), (.mv (.tmp 6))⟩, ⟨(some 69), (some (67, true)), (.mv (.tmp 8))⟩, ⟨(some 70), (some (67, true)), (.bin .eql (.tmp 68) (.tmp 69))⟩, ⟨(some 71), none, (.pick (.tmp 67) (.tmp 70) (.const (.one (.bool false))))⟩, ⟨(some 72), none, (.mv (.tmp 71))⟩, ⟨(some 73), (some (72, true)), (.mv (.tmp 10))⟩, ⟨(some 74), (some (72, true)), (.bin .eql (.tmp 73) (.const (.one (.int .i64 0))))⟩, ⟨(some 75), none, (.pick (.tmp 72) (.tmp 74) (.const (.one (.bool false))))⟩, ⟨(some 76), none, (.mv (.tmp 75))⟩, ⟨(some 77), (some (76, true)), (.mv (.tmp 9))⟩, ⟨(some 78), (some (76, true)), (.mv (.tmp 0))⟩, ⟨(some 79), (some (76, true)), (.mv (.tmp 6))⟩, ⟨(some 80), (some (76, true)), (.cutS (.tmp 78) none (some (.tmp 79)))⟩, ⟨(some 81), (some (76, true)), (.bin .eql (.tmp 77) (.tmp 80))⟩, ⟨(some 82), none, (.pick (.tmp 76) (.tmp 81) (.const (.one (.bool false))))⟩, ⟨(some 83), none, (.mv (.tmp 82))⟩, ⟨(some 84), (some (83, true)), (.mv (.tmp 0))⟩, ⟨(some 85), (some (83, true)), (.mv (.tmp 1))⟩, ⟨(some 86), (some (83, true)), (.call 14 [(.tmp 84), (.tmp 85)])⟩, ⟨(some 87), (some (83, true)), (.mv (.tmp 13))⟩, ⟨(some 88), (some (83, true)), (.bin .eql (.tmp 86) (.tmp 87))⟩, ⟨(some 89), none, (.pick (.tmp 83) (.tmp 88) (.const (.one (.bool false))))⟩, ⟨(some 4), none, (.mv (.tmp 89))⟩]) .ret))))))))))⟩
abbrev T3 : Nat → Callee := (upd (upd (upd (upd (upd (upd none0 9 F9) 10 F10) 11 F11) 12 F12) 13 F13) 14 F14)
def F3 : Callee := evF T3 KK c3
theorem s3 : Sound Go.Proofs.Try.prog 3 F3 := fn_ok (upd_ok (upd_ok (upd_ok (upd_ok (upd_ok (upd_ok (none0_ok _) s9) s10) s11) s12) s13) s14) mixed (by kernel_rfl)
def F67 : Callee := Go.Proofs.cl67
theorem s67 : Sound Go.Proofs.Try.prog 67 F67 := Go.Proofs.w67
def c26 : AF := ⟨[(2, none)],
  (.seq (.ops [⟨(some 2), none, (.newNil (.strs []))⟩]) (.seq (.seq (.ops [⟨(some 3), none, (.mv (.tmp 0))⟩, ⟨(some 4), none, (.eqNil false (.tmp 3))⟩]) (.cond (.tmp 4) (.seq (.ops [⟨(some 2), none, (.newNil (.strs []))⟩]) .ret) .skip)) (.seq (.ops [⟨(some 5), none, (.mv (.tmp 0))⟩, ⟨(some 6), none, (.nilCheck (.tmp 5))⟩, ⟨(some 7), none, (.fadr 0 (.tmp 6))⟩, ⟨(some 8), none, (.load none (.tmp 7))⟩, ⟨(some 9), none, (.call 67 [(.tmp 8)])⟩, ⟨(some 2), none, (.mv (.tmp 9))⟩]) .ret)))⟩
abbrev T26 : Nat → Callee := (upd none0 67 F67)
def F26 : Callee := evF T26 0 c26
theorem s26 : Sound Go.Proofs.Try.prog 26 F26 := fn_ok (upd_ok (none0_ok _) s67) mixed (by kernel_rfl)
def b5x0 : AC := (.seq (.ops [⟨(some 39), none, (.bin .lss (.tmp 38) (.tmp 37))⟩]) (.seq (.cond (.tmp 39) .skip (.exit 0)) (.seq (.block 1 (.seq (.ops [⟨(some 40), none, (.iadrR 1 (.tmp 36) (.tmp 38))⟩, ⟨(some 41), none, (.load none (.tmp 40))⟩, ⟨(some 10), none, (.mv (.tmp 41))⟩]) (.seq (.seq (.ops [⟨(some 42), none, (.mv (.tmp 10))⟩, ⟨(some 43), none, (.lenS (.tmp 42))⟩, ⟨(some 44), none, (.bin .gtr (.tmp 43) (.const (.one (.int .i64 60))))⟩]) (.cond (.tmp 44) (.seq (.ops [⟨(some 6), none, (.mv (.const (.one (.bool true))))⟩]) .ret) .skip)) (.seq (.ops [⟨(some 46), none, (.mv (.tmp 10))⟩, ⟨(some 47), none, (.call 22 [(.tmp 46)])⟩, ⟨(some 45), none, (.mv (.tmp 47))⟩, ⟨(some 48), none, (.extract 0 (.tmp 45))⟩, ⟨(some 49), none, (.extract 1 (.tmp 45))⟩, ⟨(some 11), none, (.mv (.tmp 48))⟩, ⟨(some 12), none, (.mv (.tmp 49))⟩]) (.seq (.seq (.ops [⟨(some 50), none, (.mv (.tmp 12))⟩, ⟨(some 51), none, (.bin .neq (.tmp 50) (.const (.one (.int .i64 0))))⟩, ⟨(some 52), none, (.mv (.tmp 51))⟩, ⟨(some 53), (some (52, false)), (.mv (.tmp 11))⟩, ⟨(some 54), (some (52, false)), (.mv (.tmp 10))⟩, ⟨(some 55), (some (52, false)), (.call 23 [(.tmp 54)])⟩, ⟨(some 56), (some (52, false)), (.bin .neq (.tmp 53) (.tmp 55))⟩, ⟨(some 57), none, (.pick (.tmp 52) (.const (.one (.bool true))) (.tmp 56))⟩]) (.cond (.tmp 57) (.seq (.ops [⟨(some 6), none, (.mv (.const (.one (.bool false))))⟩]) .ret) .skip)) (.seq (.ops [⟨(some 58), none, (.mv (.tmp 7))⟩, ⟨(some 59), none, (.mv (.tmp 11))⟩, ⟨(some 60), none, (.bin .add (.tmp 58) (.tmp 59))⟩, ⟨(some 7), none, (.mv (.tmp 60))⟩]) (.ops [⟨(some 61), none, (.mv (.tmp 8))⟩, ⟨(some 62), none, (.mv (.tmp 7))⟩, ⟨(some 63), none, (.lenS (.tmp 62))⟩, ⟨(some 64), none, (.bslice (.ints .i64 []) [(.int .i64 0)] 1 [(0, (.tmp 63))])⟩, ⟨(some 65), none, (.append (.ints .i64 []) 8 (.tmp 61) (.tmp 64))⟩, ⟨(some 8), none, (.mv (.tmp 65))⟩]))))))) (.ops [⟨(some 66), none, (.bin .add (.tmp 38) (.const (.one (.int .i64 1))))⟩, ⟨(some 38), none, (.mv (.tmp 66))⟩]))))
def b5x1 : AC := (.seq (.ops [⟨(some 88), none, (.bin .lss (.tmp 87) (.tmp 86))⟩]) (.seq (.cond (.tmp 88) .skip (.exit 2)) (.seq (.block 3 (.seq (.ops [⟨(some 89), none, (.mv (.tmp 87))⟩, ⟨(some 90), none, (.iadrR 1 (.tmp 85) (.tmp 87))⟩, ⟨(some 91), none, (.load none (.tmp 90))⟩, ⟨(some 17), none, (.mv (.tmp 89))⟩, ⟨(some 18), none, (.mv (.tmp 91))⟩]) (.seq (.ops [⟨(some 92), none, (.mv (.tmp 18))⟩, ⟨(some 93), none, (.mv (.tmp 15))⟩, ⟨(some 94), none, (.bin .leq (.tmp 92) (.tmp 93))⟩]) (.cond (.tmp 94) (.ops [⟨(some 95), none, (.mv (.tmp 17))⟩, ⟨(some 16), none, (.mv (.tmp 95))⟩]) .skip)))) (.ops [⟨(some 96), none, (.bin .add (.tmp 87) (.const (.one (.int .i64 1))))⟩, ⟨(some 87), none, (.mv (.tmp 96))⟩]))))
def c5 : AF := ⟨[(6, none)],
  (.seq (.ops [⟨(some 6), none, (.mv (.const (.one (.bool false))))⟩]) (.seq (.seq (.ops [⟨(some 25), none, (.call 9 [])⟩, ⟨(some 26), none, (.un .not (.tmp 25))⟩]) (.cond (.tmp 26) (.seq (.ops [⟨(some 6), none, (.mv (.const (.one (.bool false))))⟩]) .ret) .skip)) (.seq (.seq (.ops [⟨(some 27), none, (.mv (.tmp 0))⟩, ⟨(some 28), none, (.len (.tmp 27))⟩, ⟨(some 29), none, (.bin .gtr (.tmp 28) (.const (.one (.int .i64 20))))⟩, ⟨(some 30), none, (.mv (.tmp 29))⟩, ⟨(some 31), (some (30, false)), (.mv (.tmp 2))⟩, ⟨(some 32), (some (30, false)), (.lenS (.tmp 31))⟩, ⟨(some 33), (some (30, false)), (.bin .gtr (.tmp 32) (.const (.one (.int .i64 30))))⟩, ⟨(some 34), none, (.pick (.tmp 30) (.const (.one (.bool true))) (.tmp 33))⟩]) (.cond (.tmp 34) (.seq (.ops [⟨(some 6), none, (.mv (.const (.one (.bool true))))⟩]) .ret) .skip)) (.seq (.ops [⟨(some 35), none, (.bslice (.ints .i64 []) [(.int .i64 0)] 1 [(0, (.const (.one (.int .i64 0))))])⟩, ⟨(some 7), none, (.mv (.const (.one (.str ⟨#[]⟩))))⟩, ⟨(some 8), none, (.mv (.tmp 35))⟩]) (.seq (.seq (.ops [⟨(some 36), none, (.mv (.tmp 0))⟩, ⟨(some 37), none, (.len (.tmp 36))⟩, ⟨(some 38), none, (.mv (.const (.one (.int .i64 0))))⟩]) (.block 0 (.loop [0, 1, 2, 7, 8, 36, 37, 38] b5x0))) (.seq (.ops [⟨(some 68), none, (.mv (.tmp 0))⟩, ⟨(some 69), none, (.call 12 [(.tmp 68)])⟩, ⟨(some 67), none, (.mv (.tmp 69))⟩, ⟨(some 70), none, (.extract 0 (.tmp 67))⟩, ⟨(some 71), none, (.extract 1 (.tmp 67))⟩, ⟨(some 13), none, (.mv (.tmp 70))⟩, ⟨(some 14), none, (.mv (.tmp 71))⟩]) (.seq (.seq (.ops [⟨(some 72), none, (.mv (.tmp 14))⟩, ⟨(some 73), none, (.bin .neq (.tmp 72) (.const (.one (.int .i64 0))))⟩, ⟨(some 74), none, (.mv (.tmp 73))⟩, ⟨(some 75), (some (74, false)), (.mv (.tmp 13))⟩, ⟨(some 76), (some (74, false)), (.mv (.tmp 7))⟩, ⟨(some 77), (some (74, false)), (.bin .neq (.tmp 75) (.tmp 76))⟩, ⟨(some 78), none, (.pick (.tmp 74) (.const (.one (.bool true))) (.tmp 77))⟩]) (.cond (.tmp 78) (.seq (.ops [⟨(some 6), none, (.mv (.const (.one (.bool false))))⟩]) .ret) .skip)) (.seq (.ops [⟨(some 79), none, (.mv (.tmp 1))⟩, ⟨(some 80), none, (.conv .i64 (.tmp 79))⟩, ⟨(some 81), none, (.mv (.tmp 13))⟩, ⟨(some 82), none, (.lenS (.tmp 81))⟩, ⟨(some 83), none, (.bin .add (.tmp 82) (.const (.one (.int .i64 1))))⟩, ⟨(some 84), none, (.bin .rem (.tmp 80) (.tmp 83))⟩, ⟨(some 15), none, (.mv (.tmp 84))⟩]) (.seq (.ops [⟨(some 16), none, (.mv (.const (.one (.int .i64 0))))⟩]) (.seq (.seq (.ops [⟨(some 85), none, (.mv (.tmp 8))⟩, ⟨(some 86), none, (.len (.tmp 85))⟩, ⟨(some 87), none, (.mv (.const (.one (.int .i64 0))))⟩]) (.block 2 (.loop [0, 2, 8, 13, 15, 16, 85, 86, 87] b5x1))) (.seq (.ops [⟨(some 97), none, (.mv (.tmp 13))⟩, ⟨(some 98), none, (.call 24 [(.tmp 97)])⟩, ⟨(some 19), none, (.mv (.tmp 98))⟩]) (.seq (.ops [⟨(some 99), none, (.mv (.tmp 19))⟩, ⟨(some 100), none, (.mv (.tmp 15))⟩, ⟨(some 101), none, (.call 25 [(.tmp 99), (.tmp 100)])⟩, ⟨(some 20), none, (.mv (.tmp 101))⟩]) (.seq (.seq (.opsD [(⟨(some 102), none, (.mv (.tmp 20))⟩, false), (⟨(some 103), none, (.mv (.tmp 16))⟩, false), (⟨(some 104), none, (.bin .neq (.tmp 102) (.tmp 103))⟩, false), (⟨(some 105), none, (.mv (.tmp 104))⟩, false), (⟨(some 106), (some (105, false)), (.mv (.tmp 19))⟩, false), (⟨(some 107), (some (105, false)), (.call 26 [(.tmp 106)])⟩, true), (⟨(some 108), (some (105, false)), (.mv (.tmp 0))⟩, false), (⟨(some 109), (some (105, false)), (.mv (.tmp 16))⟩, false), (⟨(some 110), (some (105, false)), (.cutR 1 (.tmp 108) none (some (.tmp 109)))⟩, false), (⟨(some 111), (some (105, false)), (.call 13 [(.tmp 107), (.tmp 110)])⟩, true), (⟨(some 112), (some (105, false)), (.un .not (.tmp 111))⟩, false), (⟨(some 113), none, (.pick (.tmp 105) (.const (.one (.bool true))) (.tmp 112))⟩, false), (⟨(some 114), none, (.mv (.tmp 113))⟩, false), (⟨(some 115), (some (114, false)), (.mv (.tmp 19))⟩, false), (⟨(some 116), (some (114, false)), (.call 27 [(.tmp 115)])⟩, true), (⟨(some 117), (some (114, false)), (.mv (.tmp 13))⟩, false), (⟨(some 118), (some (114, false)), (.mv (.tmp 8))⟩, false), (⟨(some 119), (some (114, false)), (.mv (.tmp 16))⟩, false), (⟨(some 120), (some (114, false)), (.iadrR 1 (.tmp 118) (.tmp 119))⟩, false), (⟨(some 121), (some (114, false)), (.load none (.tmp 120))⟩, false), (⟨(some 122), (some (114, false)), (.cutS (.tmp 117) none (some (.tmp 121)))⟩, false), (⟨(some 123), (some (114, false)), (.bin .neq (.tmp 116) (.tmp 122))⟩, false), (⟨(some 124), none, (.pick (.tmp 114) (.const (.one (.bool true))) (.tmp 123))⟩, false)] [(8, [0]), (18, [2]), (19, [2])]) (.cond (.tmp 124) (.seq (.ops [⟨(some 6), none, (.mv (.const (.one (.bool false))))⟩]) .ret) .skip)) (.seq (.ops [⟨(some 126), none, (.mv (.tmp 13))⟩, ⟨(some 127), none, (.mv (.tmp 15))⟩, ⟨(some 128), none, (.cutS (.tmp 126) none (some (.tmp 127)))⟩, ⟨(some 129), none, (.mv (.tmp 2))⟩, ⟨(some 130), none, (.bin .add (.tmp 128) (.tmp 129))⟩, ⟨(some 131), none, (.call 10 [(.tmp 130)])⟩, ⟨(some 125), none, (.mv (.tmp 131))⟩, ⟨(some 132), none, (.extract 0 (.tmp 125))⟩, ⟨(some 133), none, (.extract 1 (.tmp 125))⟩, ⟨(some 21), none, (.mv (.tmp 132))⟩, ⟨(some 22), none, (.mv (.tmp 133))⟩]) (.seq (.ops [⟨(some 135), none, (.mv (.tmp 13))⟩, ⟨(some 136), none, (.mv (.tmp 15))⟩, ⟨(some 137), none, (.cutS (.tmp 135) none (some (.tmp 136)))⟩, ⟨(some 138), none, (.mv (.tmp 2))⟩, ⟨(some 139), none, (.bin .add (.tmp 137) (.tmp 138))⟩, ⟨(some 140), none, (.call 11 [(.tmp 139)])⟩, ⟨(some 134), none, (.mv (.tmp 140))⟩, ⟨(some 141), none, (.extract 0 (.tmp 134))⟩, ⟨(some 142), none, (.extract 1 (.tmp 134))⟩, ⟨(some 23), none, (.mv (.tmp 141))⟩, ⟨(some 24), none, (.mv (.tmp 142))⟩]) (.seq (.opsD [(⟨(some 143), none, (.mv (.tmp 21))⟩, false), (⟨(some 144), none, (.mv (.tmp 23))⟩, false), (⟨(some 145), none, (.call 13 [(.tmp 143), (.tmp 144)])⟩, true), (⟨(some 146), none, (.mv (.tmp 145))⟩, false), (⟨(some 147), (some (146, true)), (.mv (.tmp 22))⟩, false), (⟨(some 148), (some (146, true)), (.mv (.tmp 24))⟩, false), (⟨(some 149), (some (146, true)), (.bin .eql (.tmp 147) (.tmp 148))⟩, false), (⟨(some 150), none, (.pick (.tmp 146) (.tmp 149) (.const (.one (.bool false))))⟩, false), (⟨(some 151), none, (.mv (.tmp 150))⟩, false), (⟨(some 152), (some (151, true)), (.mv (.tmp 21))⟩, false), (⟨(some 153), (some (151, true)), (.len (.tmp 152))⟩, false), (⟨(some 154), (some (151, true)), (.mv (.tmp 16))⟩, false), (⟨(some 155), (some (151, true)), (.bin .geq (.tmp 153) (.tmp 154))⟩, false), (⟨(some 156), none, (.pick (.tmp 151) (.tmp 155) (.const (.one (.bool false))))⟩, false), (⟨(some 157), none, (.mv (.tmp 156))⟩, false), (⟨(some 158), (some (157, true)), (.mv (.tmp 21))⟩, false), (⟨(some 159), (some (157, true)), (.mv (.tmp 16))⟩, false), (⟨(some 160), (some (157, true)), (.cutR 1 (.tmp 158) none (some (.tmp 159)))⟩, false), (⟨(some 161), (some (157, true)), (.mv (.tmp 0))⟩, false), (⟨(some 162), (some (157, true)), (.mv (.tmp 16))⟩, false), (⟨(some 163), (some (157, true)), (.cutR 1 (.tmp 161) none (some (.tmp 162)))⟩, false), (⟨(some 164), (some (157, true)), (.call 13 [(.tmp 160), (.tmp 163)])⟩, true), (⟨(some 165), none, (.pick (.tmp 157) (.tmp 164) (.const (.one (.bool false))))⟩, false), (⟨(some 6), none, (.mv (.tmp 165))⟩, false)] []) .ret))))))))))))))))⟩
abbrev T5 : Nat → Callee := (upd (upd (upd (upd (upd (upd (upd (upd (upd (upd (upd none0 9 F9) 10 F10) 11 F11) 12 F12) 13 F13) 22 F22) 23 F23) 24 F24) 25 F25) 26 F26) 27 F27)
def F5 : Callee := evF T5 KK c5
theorem s5 : Sound Go.Proofs.Try.prog 5 F5 := fn_ok (upd_ok (upd_ok (upd_ok (upd_ok (upd_ok (upd_ok (upd_ok (upd_ok (upd_ok (upd_ok (upd_ok (none0_ok _) s9) s10) s11) s12) s13) s22) s23) s24) s25) s26) s27) mixed (by kernel_rfl)
def c31 : AF := ⟨[(4, none)],
  (.seq (.ops [⟨(some 4), none, (.mv (.const (.one (.int .i64 0))))⟩]) (.seq (.seq (.ops [⟨(some 7), none, (.mv (.tmp 0))⟩, ⟨(some 8), none, (.eqNil false (.tmp 7))⟩]) (.cond (.tmp 8) (.seq (.ops [⟨(some 4), none, (.mv (.const (.one (.int .i64 1))))⟩]) .ret) .skip)) (.seq (.ops [⟨(some 10), none, (.mv (.tmp 1))⟩, ⟨(some 11), none, (.call 22 [(.tmp 10)])⟩, ⟨(some 9), none, (.mv (.tmp 11))⟩, ⟨(some 12), none, (.extract 0 (.tmp 9))⟩, ⟨(some 13), none, (.extract 1 (.tmp 9))⟩, ⟨(some 5), none, (.mv (.tmp 12))⟩, ⟨(some 6), none, (.mv (.tmp 13))⟩]) (.seq (.block 0 (.seq (.ops [⟨(some 15), none, (.mv (.tmp 6))⟩, ⟨(some 16), none, (.bin .neq (.tmp 15) (.const (.one (.int .i64 0))))⟩, ⟨(some 14), none, (.mv (.tmp 16))⟩]) (.cond (.tmp 14) (.seq (.ops [⟨(some 17), none, (.mv (.tmp 6))⟩, ⟨(some 4), none, (.mv (.tmp 17))⟩]) .ret) (.seq (.ops [⟨(some 19), none, (.mv (.tmp 0))⟩, ⟨(some 20), none, (.nilCheck (.tmp 19))⟩, ⟨(some 21), none, (.fadr 0 (.tmp 20))⟩, ⟨(some 22), none, (.load none (.tmp 21))⟩, ⟨(some 23), none, (.len (.tmp 22))⟩, ⟨(some 24), none, (.bin .geq (.tmp 23) (.const (.one (.int .i64 400))))⟩, ⟨(some 18), none, (.mv (.tmp 24))⟩]) (.cond (.tmp 18) (.seq (.ops [⟨(some 4), none, (.mv (.const (.one (.int .i64 2))))⟩]) .ret) .skip))))) (.seq (.opsD [(⟨(some 25), none, (.mv (.tmp 0))⟩, false), (⟨(some 26), none, (.mv (.tmp 0))⟩, false), (⟨(some 27), none, (.mv (.tmp 0))⟩, false), (⟨(some 28), none, (.nilCheck (.tmp 27))⟩, false), (⟨(some 29), none, (.fadr 0 (.tmp 28))⟩, false), (⟨(some 30), none, (.load none (.tmp 29))⟩, false), (⟨(some 31), none, (.mv (.tmp 1))⟩, false), (⟨(some 32), none, (.bslice (.strs []) [(.str ⟨#[]⟩)] 1 [(0, (.tmp 31))])⟩, true), (⟨(some 33), none, (.append (.strs []) 16 (.tmp 30) (.tmp 32))⟩, true), (⟨(some 34), none, (.mv (.tmp 0))⟩, false), (⟨(some 35), none, (.nilCheck (.tmp 34))⟩, false), (⟨(some 36), none, (.fadr 1 (.tmp 35))⟩, false), (⟨(some 37), none, (.load none (.tmp 36))⟩, false), (⟨(some 38), none, (.mv (.tmp 5))⟩, false), (⟨(some 39), none, (.bin .add (.tmp 37) (.tmp 38))⟩, false), (⟨(some 40), none, (.nilCheck (.tmp 25))⟩, false), (⟨(some 41), none, (.fadr 0 (.tmp 40))⟩, false), (⟨none, none, (.store 1 (.tmp 41) (.tmp 33))⟩, true), (⟨(some 42), none, (.nilCheck (.tmp 26))⟩, false), (⟨(some 43), none, (.fadr 1 (.tmp 42))⟩, false), (⟨none, none, (.store 1 (.tmp 43) (.tmp 39))⟩, true)] [(5, [1]), (12, [1, 0])]) (.seq (.ops [⟨(some 4), none, (.mv (.const (.one (.int .i64 0))))⟩]) .ret))))))⟩
abbrev T31 : Nat → Callee := (upd none0 22 F22)
def F31 : Callee := evF T31 0 c31
theorem s31 : Sound Go.Proofs.Try.prog 31 F31 := fn_ok (upd_ok (none0_ok _) s22) mixed (by kernel_rfl)
def b7x0 : AC := (.seq (.ops [⟨(some 37), none, (.bin .lss (.tmp 36) (.tmp 35))⟩]) (.seq (.cond (.tmp 37) .skip (.exit 0)) (.seq (.block 1 (.seq (.ops [⟨(some 38), none, (.iadrR 1 (.tmp 34) (.tmp 36))⟩, ⟨(some 39), none, (.load none (.tmp 38))⟩, ⟨(some 10), none, (.mv (.tmp 39))⟩]) (.seq (.seq (.ops [⟨(some 40), none, (.mv (.tmp 10))⟩, ⟨(some 41), none, (.lenS (.tmp 40))⟩, ⟨(some 42), none, (.bin .gtr (.tmp 41) (.const (.one (.int .i64 600))))⟩]) (.cond (.tmp 42) (.seq (.ops [⟨(some 4), none, (.mv (.const (.one (.bool true))))⟩]) .ret) .skip)) (.seq (.ops [⟨(some 43), none, (.mv (.tmp 8))⟩, ⟨(some 44), none, (.mv (.tmp 10))⟩, ⟨(some 45), none, (.call 31 [(.tmp 43), (.tmp 44)])⟩, ⟨(some 11), none, (.mv (.tmp 45))⟩]) (.seq (.seq (.ops [⟨(some 46), none, (.mv (.tmp 10))⟩, ⟨(some 47), none, (.lenS (.tmp 46))⟩, ⟨(some 48), none, (.bin .gtr (.tmp 47) (.const (.one (.int .i64 512))))⟩]) (.cond (.tmp 48) (.seq (.seq (.ops [⟨(some 49), none, (.mv (.tmp 11))⟩, ⟨(some 50), none, (.bin .neq (.tmp 49) (.const (.one (.int .i64 5))))⟩]) (.cond (.tmp 50) (.seq (.ops [⟨(some 4), none, (.mv (.const (.one (.bool false))))⟩]) .ret) .skip)) (.exit 1)) .skip)) (.seq (.seq (.ops [⟨(some 51), none, (.mv (.tmp 11))⟩, ⟨(some 52), none, (.bin .neq (.tmp 51) (.const (.one (.int .i64 0))))⟩]) (.cond (.tmp 52) (.seq (.ops [⟨(some 4), none, (.mv (.const (.one (.bool false))))⟩]) .ret) .skip)) (.ops [⟨(some 53), none, (.mv (.tmp 5))⟩, ⟨(some 54), none, (.mv (.tmp 10))⟩, ⟨(some 55), none, (.bslice (.strs []) [(.str ⟨#[]⟩)] 1 [(0, (.tmp 54))])⟩, ⟨(some 56), none, (.append (.strs []) 16 (.tmp 53) (.tmp 55))⟩, ⟨(some 57), none, (.mv (.tmp 7))⟩, ⟨(some 58), none, (.mv (.tmp 10))⟩, ⟨(some 59), none, (.call 23 [(.tmp 58)])⟩, ⟨(some 60), none, (.bin .add (.tmp 57) (.tmp 59))⟩, ⟨(some 5), none, (.mv (.tmp 56))⟩, ⟨(some 7), none, (.mv (.tmp 60))⟩]))))))) (.ops [⟨(some 61), none, (.bin .add (.tmp 36) (.const (.one (.int .i64 1))))⟩, ⟨(some 36), none, (.mv (.tmp 61))⟩]))))
def c7 : AF := ⟨[(4, none)],
  (.seq (.ops [⟨(some 4), none, (.mv (.const (.one (.bool false))))⟩]) (.seq (.seq (.ops [⟨(some 14), none, (.call 9 [])⟩, ⟨(some 15), none, (.un .not (.tmp 14))⟩]) (.cond (.tmp 15) (.seq (.ops [⟨(some 4), none, (.mv (.const (.one (.bool false))))⟩]) .ret) .skip)) (.seq (.seq (.ops [⟨(some 16), none, (.mv (.tmp 0))⟩, ⟨(some 17), none, (.lenS (.tmp 16))⟩, ⟨(some 18), none, (.bin .gtr (.tmp 17) (.const (.one (.int .i64 100))))⟩, ⟨(some 19), none, (.mv (.tmp 18))⟩, ⟨(some 20), (some (19, false)), (.mv (.tmp 1))⟩, ⟨(some 21), (some (19, false)), (.len (.tmp 20))⟩, ⟨(some 22), (some (19, false)), (.bin .gtr (.tmp 21) (.const (.one (.int .i64 30))))⟩, ⟨(some 23), none, (.pick (.tmp 19) (.const (.one (.bool true))) (.tmp 22))⟩]) (.cond (.tmp 23) (.seq (.ops [⟨(some 4), none, (.mv (.const (.one (.bool true))))⟩]) .ret) .skip)) (.seq (.ops [⟨(some 25), none, (.mv (.tmp 0))⟩, ⟨(some 26), none, (.call 11 [(.tmp 25)])⟩, ⟨(some 24), none, (.mv (.tmp 26))⟩, ⟨(some 27), none, (.extract 0 (.tmp 24))⟩, ⟨(some 28), none, (.extract 1 (.tmp 24))⟩, ⟨(some 5), none, (.mv (.tmp 27))⟩, ⟨(some 6), none, (.mv (.tmp 28))⟩]) (.seq (.ops [⟨(some 29), none, (.mv (.tmp 0))⟩, ⟨(some 30), none, (.mv (.tmp 6))⟩, ⟨(some 31), none, (.cutS (.tmp 29) none (some (.tmp 30)))⟩, ⟨(some 7), none, (.mv (.tmp 31))⟩]) (.seq (.ops [⟨(some 32), none, (.mv (.tmp 0))⟩, ⟨(some 33), none, (.call 24 [(.tmp 32)])⟩, ⟨(some 8), none, (.mv (.tmp 33))⟩]) (.seq (.seq (.ops [⟨(some 34), none, (.mv (.tmp 1))⟩, ⟨(some 35), none, (.len (.tmp 34))⟩, ⟨(some 36), none, (.mv (.const (.one (.int .i64 0))))⟩]) (.block 0 (.loop [5, 7, 8, 34, 35, 36] b7x0))) (.seq (.ops [⟨(some 62), none, (.mv (.tmp 8))⟩, ⟨(some 63), none, (.call 27 [(.tmp 62)])⟩, ⟨(some 64), none, (.call 24 [(.tmp 63)])⟩, ⟨(some 12), none, (.mv (.tmp 64))⟩]) (.seq (.ops [⟨(some 13), none, (.mv (.const (.one .nilp)))⟩]) (.seq (.ops [⟨(some 65), none, (.mv (.tmp 8))⟩, ⟨(some 66), none, (.call 26 [(.tmp 65)])⟩, ⟨(some 67), none, (.mv (.tmp 5))⟩, ⟨(some 68), none, (.call 13 [(.tmp 66), (.tmp 67)])⟩, ⟨(some 69), none, (.mv (.tmp 68))⟩, ⟨(some 70), (some (69, true)), (.mv (.tmp 8))⟩, ⟨(some 71), (some (69, true)), (.call 27 [(.tmp 70)])⟩, ⟨(some 72), (some (69, true)), (.mv (.tmp 7))⟩, ⟨(some 73), (some (69, true)), (.bin .eql (.tmp 71) (.tmp 72))⟩, ⟨(some 74), none, (.pick (.tmp 69) (.tmp 73) (.const (.one (.bool false))))⟩, ⟨(some 75), none, (.mv (.tmp 74))⟩, ⟨(some 76), (some (75, true)), (.mv (.tmp 8))⟩, ⟨(some 77), (some (75, true)), (.call 32 [(.tmp 76)])⟩, ⟨(some 78), (some (75, true)), (.mv (.tmp 5))⟩, ⟨(some 79), (some (75, true)), (.len (.tmp 78))⟩, ⟨(some 80), (some (75, true)), (.bin .eql (.tmp 77) (.tmp 79))⟩, ⟨(some 81), none, (.pick (.tmp 75) (.tmp 80) (.const (.one (.bool false))))⟩, ⟨(some 82), none, (.mv (.tmp 81))⟩, ⟨(some 83), (some (82, true)), (.mv (.tmp 12))⟩, ⟨(some 84), (some (82, true)), (.call 26 [(.tmp 83)])⟩, ⟨(some 85), (some (82, true)), (.mv (.tmp 5))⟩, ⟨(some 86), (some (82, true)), (.call 13 [(.tmp 84), (.tmp 85)])⟩, ⟨(some 87), none, (.pick (.tmp 82) (.tmp 86) (.const (.one (.bool false))))⟩, ⟨(some 88), none, (.mv (.tmp 87))⟩, ⟨(some 89), (some (88, true)), (.mv (.tmp 13))⟩, ⟨(some 90), (some (88, true)), (.call 31 [(.tmp 89), (.const (.one (.str ⟨#[]⟩)))])⟩, ⟨(some 91), (some (88, true)), (.bin .eql (.tmp 90) (.const (.one (.int .i64 1))))⟩, ⟨(some 92), none, (.pick (.tmp 88) (.tmp 91) (.const (.one (.bool false))))⟩, ⟨(some 93), none, (.mv (.tmp 92))⟩, ⟨(some 94), (some (93, true)), (.mv (.tmp 13))⟩, ⟨(some 95), (some (93, true)), (.call 32 [(.tmp 94)])⟩, ⟨(some 96), (some (93, true)), (.bin .eql (.tmp 95) (.const (.one (.int .i64 0))))⟩, ⟨(some 97), none, (.pick (.tmp 93) (.tmp 96) (.const (.one (.bool false))))⟩, ⟨(some 98), none, (.mv (.tmp 97))⟩, ⟨(some 99), (some (98, true)), (.mv (.tmp 13))⟩, ⟨(some 100), (some (98, true)), (.call 27 [(.tmp 99)])⟩, ⟨(some 101), (some (98, true)), (.bin .eql (.tmp 100) (.const (.one (.str ⟨#[]⟩))))⟩, ⟨(some 102), none, (.pick (.tmp 98) (.tmp 101) (.const (.one (.bool false))))⟩, ⟨(some 103), none, (.mv (.tmp 102))⟩, ⟨(some 104), (some (103, true)), (.mv (.tmp 13))⟩, ⟨(some 105), (some (103, true)), (.call 25 [(.tmp 104), (.const (.one (.int .i64 1)))])⟩, ⟨(some 106), (some (103, true)), (.bin .eql (.tmp 105) (.const (.one (.int .i64 0))))⟩, ⟨(some 107), none, (.pick (.tmp 103) (.tmp 106) (.const (.one (.bool false))))⟩, ⟨(some 108), none, (.mv (.tmp 107))⟩, ⟨(some 109), (some (108, true)), (.mv (.tmp 13))⟩, ⟨(some 110), (some (108, true)), (.call 26 [(.tmp 109)])⟩, ⟨(some 111), (some (108, true)), (.len (.tmp 110))⟩, ⟨(some 112), (some (108, true)), (.bin .eql (.tmp 111) (.const (.one (.int .i64 0))))⟩, ⟨(some 113), none, (.pick (.tmp 108) (.tmp 112) (.const (.one (.bool false))))⟩, ⟨(some 4), none, (.mv (.tmp 113))⟩]) .ret))))))))))⟩
abbrev T7 : Nat → Callee := (upd (upd (upd (upd (upd (upd (upd (upd (upd (upd none0 9 F9) 11 F11) 13 F13) 23 F23) 24 F24) 25 F25) 26 F26) 27 F27) 31 F31) 32 F32)
def F7 : Callee := evF T7 KK c7
theorem s7 : Sound Go.Proofs.Try.prog 7 F7 := fn_ok (upd_ok (upd_ok (upd_ok (upd_ok (upd_ok (upd_ok (upd_ok (upd_ok (upd_ok (upd_ok (none0_ok _) s9) s11) s13) s23) s24) s25) s26) s27) s31) s32) mixed (by kernel_rfl)
end Go.X.Try
