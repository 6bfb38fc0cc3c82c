import Derived.ProofKit
import Derived.OpenShut
import Derived.Carry
import Derived.RangeFuncSeq
import Derived.RangeFuncCalls
import Derived.TacticsIn
import Derived.RangeFuncLeaves
import Derived.RangeFuncBox
import Derived.Shelf.Abstract
import Derived.OwnWalkIn
import Derived.TacticsInMore
import Derived.LoopNIn
import Derived.LoopIn
import Derived.Test.YtdiahnkippoppaaGreatChecked
import Derived.Test.YtdiahnkippoppaaGreatZ1
set_option linter.unusedVariables false
set_option linter.unusedSimpArgs false
set_option linter.unusedSectionVars false
set_option maxRecDepth 100000
namespace Go.X
section
variable {Γ : Nat → Callee} {C : Cx} {n n' : Nat} {ρ ρ' : Nat → RV} {s : Nat}
theorem killAll_at {k : Nat} : ∀ {S : List Nat} (hp : List Ob), (killAll hp S)[k]? = if k ∈ S ∧ k < hp.length then some .dead else hp[k]?
  | [], hp => by simp [killAll]
  | x :: S, hp => by
    simp only [killAll]
    rw [killAll_at (S := S)]
    by_cases e : k = x
    · subst e
      by_cases hk : k < hp.length
      · simp [hk]
      · simp [hk, List.getElem?_set]
    · simp [e, List.getElem?_set_ne (Ne.symm e)]
def pend (fs : List (Nat × Nat × FO)) (listed : Array Bool) : List Nat := (fs.filter fun f => !listed.getD f.1 false).map (·.2.1)
theorem mem_pend {fs : List (Nat × Nat × FO)} {listed : Array Bool} {s : Nat} : s ∈ pend fs listed ↔ ∃ f ∈ fs, f.2.1 = s ∧ ¬ doneD listed f.1 := by
  simp only [pend, List.mem_map, List.mem_filter, Bool.not_eq_true', doneD, Bool.not_eq_true]
  constructor
  · rintro ⟨f, ⟨h1, h2⟩, h3⟩; exact ⟨f, h1, h3, h2⟩
  · rintro ⟨f, h1, h3, h2⟩; exact ⟨f, ⟨h1, h2⟩, h3⟩
theorem zcells_sv : ∀ {z : List ZV} (hp : List Ob), allSv z = true → zcells z hp = ((zcells z []).1, hp)
  | [], hp, _ => rfl
  | .sv v :: z, hp, h => by
    simp only [allSv, Bool.and_eq_true] at h
    simp only [zcells]
    rw [zcells_sv hp h.2]
  | .nil c :: z, hp, h => by simp [allSv] at h
theorem scsOf_inv : ∀ {l : List SV} {m : List Sc}, scsOf l = some m → l = m.map Sc.sv
  | [], m, h => by simp [scsOf] at h; subst h; rfl
  | v :: l, m, h => by
    simp only [scsOf, Option.bind_eq_some_iff, Option.map_eq_some_iff] at h
    obtain ⟨s, hs, m', hm, rfl⟩ := h
    rw [scsOf_inv hm]
    cases v <;> simp [SV.sc] at hs <;> subst hs <;> rfl
theorem F_op {op : AOp} {env : Env} {c : FO} (hf : isF op = true) (h : rowOf (evOp Γ env [] op) = some c) (M : List Ob) : evOp Γ env M op = some (.one (fval M.length op), M ++ [c.ob]) := by
  have put : ∀ {r : Option RC}, rowOf (putR [] r) = some c → putR M r = some (.one (.row M.length), M ++ [c.ob]) := by
    intro r h
    cases r with
    | none => simp [putR, rowOf] at h
    | some d =>
      simp [putR, newRow, rowOf] at h
      subst h; rfl
  cases op
  case newNil c0 => simp only [evOp] at h ⊢; exact put (r := some c0) h
  case bslice c0 z l ps => simp only [evOp] at h ⊢; exact put h
  case mks c0 z b l x =>
    simp only [evOp] at h ⊢
    unfold oMks at h ⊢
    split at h
    · split at h
      · rename_i hc; rw [if_pos hc]; exact put h
      · simp [rowOf] at h
    · simp [rowOf] at h
  case append c0 b x y =>
    obtain ⟨d0, rfl⟩ : ∃ d0, x = .const (.one (.nils d0)) := by
      cases x with
      | tmp t => simp [isF] at hf
      | const v =>
        cases v with
        | one v => cases v <;> first | exact ⟨_, rfl⟩ | simp [isF] at hf
        | agg l => simp [isF] at hf
        | tup l => simp [isF] at hf
    have e0 : getS env (.const (.one (.nils d0))) = .nils d0 := rfl
    simp only [evOp, Go.X.append, e0] at h ⊢
    generalize getS env y = yv at h ⊢
    have src : ∀ d, source [] c0 yv = some d → source M c0 yv = some d := by
      intro d hd
      cases yv <;> simp [source, content, rowAt, cutAt] at hd ⊢ <;> exact hd
    cases hy : source [] c0 yv with
    | none => rw [hy] at h; simp [app1, rowOf] at h
    | some d =>
      rw [hy] at h
      rw [src d hy]
      simp only [app1, app2] at h ⊢
      split at h
      · rename_i hc; rw [if_pos hc]; exact put h
      · simp [rowOf] at h
  case alloc z =>
    simp only [isF] at hf
    simp only [evOp] at h ⊢
    rw [zcells_sv [] hf] at h
    rw [zcells_sv M hf]
    simp only [List.length_nil, List.nil_append, rowOf] at h
    unfold zO at h
    split at h
    · rename_i l e
      simp at h; subst h
      simp only [fval, FO.ob]
      rw [scsOf_inv e]
    · cases h
  all_goals simp [isF] at hf
theorem noKey_of {S : List Nat} {env : Env} {a : Act} {x : AO} (hS : ∀ k ∈ S, Poison ρ k) (he : EnvR C n ρ env a) (h : noKey x = true) : ¬ keyIn S (getS env x) := by
  cases x with
  | const v =>
    simp only [noKey] at h
    simp only [getS, getO]
    generalize v.sv = w at h
    cases w <;> simp [keyIn] at h ⊢
  | tmp t =>
    simp only [getS, getO]
    have h1 := he t
    generalize getT t env = v at h1
    generalize a.tmps.getD t undef = u at h1
    cases h1 with
    | one v u h => exact VR.not_in hS h
    | agg l vs h => simp [AV.sv, keyIn]
    | tup l vs h => simp [AV.sv, keyIn]
theorem offS_plain {S : List Nat} {v : SV} (h : v.plain = true) : offS S v := by
  cases v <;> first | trivial | (simp [SV.plain] at h)
theorem offSL_plain {S : List Nat} : ∀ {l : List SV}, plainL l = true → offSL S l
  | [], h => trivial
  | v :: l, h => by simp only [plainL, Bool.and_eq_true] at h; exact ⟨offS_plain h.1, offSL_plain h.2⟩
mutual
theorem off_plainA {S : List Nat} : ∀ {v : AV}, v.plain = true → offSL S (avCells v)
  | .one v, h => by simp only [AV.plain] at h; exact ⟨offS_plain h, trivial⟩
  | .agg l, h => by simp only [AV.plain] at h; exact offSL_plain h
  | .tup l, h => by simp only [AV.plain] at h; simp only [avCells]; exact off_plainT h
theorem off_plainT {S : List Nat} : ∀ {l : List AV}, plainT l = true → offSL S (avsCells l)
  | [], h => trivial
  | v :: l, h => by simp only [plainT, Bool.and_eq_true] at h; simp only [avsCells]; exact offSL_append.2 ⟨off_plainA h.1, off_plainT h.2⟩
end
mutual
theorem AVR.off {S : List Nat} (hS : ∀ k ∈ S, Poison ρ k) : ∀ {v : AV} {u : Value}, AVR C n ρ v u → offSL S (avCells v)
  | _, _, .one v u h => ⟨VR.off hS h, trivial⟩
  | _, _, .agg l us h => VRL.off hS h
  | _, _, .tup l us h => by simp only [avCells]; exact AVRL.off hS h
theorem AVRL.off {S : List Nat} (hS : ∀ k ∈ S, Poison ρ k) : ∀ {l : List AV} {us : List Value}, AVRL C n ρ l us → offSL S (avsCells l)
  | _, _, .nil => trivial
  | _, _, .cons v u l us h hl => by simp only [avsCells]; exact offSL_append.2 ⟨AVR.off hS h, AVRL.off hS hl⟩
end
theorem noKeyA_of {S : List Nat} {env : Env} {a : Act} (hS : ∀ k ∈ S, Poison ρ k) (he : EnvR C n ρ env a) : ∀ {l : List AO}, l.all noKeyA = true → offSL S (avsCells (getL env l))
  | [], h => trivial
  | x :: l, h => by
    simp only [List.all_cons, Bool.and_eq_true] at h
    simp only [getL, avsCells]
    refine offSL_append.2 ⟨?_, noKeyA_of hS he h.2⟩
    cases x with
    | tmp t => exact AVR.off hS (he t)
    | const v => exact off_plainA h.1
theorem closed_of {S : List Nat} {hp : List Ob} {w : World} (hS : ∀ k ∈ S, Poison ρ k) (hH : HR C ρ (killAll hp S) w) : closedS hp S := by
  intro k g l hk e
  have := hH.ob k (.cells g l) (by rw [killAll_get hp hk]; exact e)
  obtain ⟨b, T, cur, _, _, _, hv, _⟩ := this
  exact VRL.off hS hv
theorem freeK_of {S : List Nat} {env : Env} {a : Act} {op : AOp} {hp : List Ob} {w : World} (hS : ∀ k ∈ S, Poison ρ k) (h0 : callB op = true → 0 ∉ S) (he : EnvR C n ρ env a) (hH : HR C ρ (killAll hp S) w) (h : freeK op = true) : freeOp env S hp op := by
  cases op <;> simp only [freeK, Bool.and_eq_true, decide_eq_true_eq] at h <;> simp only [freeOp] <;> first | exact h | exact noKey_of hS he h | exact ⟨noKey_of hS he h.1, noKey_of hS he h.2⟩ | exact ⟨noKeyA_of hS he h, closed_of hS hH, h0 rfl⟩
theorem step_kill {S : List Nat} {env : Env} {a : Act} {ai : AI} {hp hp1 : List Ob} {v : AV} {w : World} (hS : ∀ k ∈ S, Poison ρ k) (h0 : callB ai.op = true → 0 ∉ S) (hl : ∀ k ∈ S, k < hp.length) (he : EnvR C n ρ env a) (hH : HR C ρ (killAll hp S) w) (hf : freeK ai.op = true) (h : stepI Γ env hp ai = some (v, hp1)) : stepI Γ env (killAll hp S) ai = some (v, killAll hp1 S) := by
  obtain ⟨dst, g, op⟩ := ai
  cases g with
  | none => exact op_kill hl (freeK_of hS h0 he hH hf) h
  | some g =>
    obtain ⟨t, b⟩ := g
    simp only [stepI] at h ⊢
    unfold stepG at h ⊢
    split at h
    · split at h
      · rename_i hc; simp only [if_pos hc]; exact op_kill hl (freeK_of hS h0 he hH hf) h
      · rename_i hc
        simp at h; obtain ⟨rfl, rfl⟩ := h
        simp only [if_neg hc]
    · simp at h; obtain ⟨rfl, rfl⟩ := h; rfl
    · simp at h
theorem FO.ren_id (c : FO) (f : Nat → Option Nat) : c.ob.ren f = c.ob := by
  cases c with
  | r c => rfl
  | z l =>
    simp only [FO.ob, Ob.ren]
    congr 1
    induction l with
    | nil => rfl
    | cons s l ih => simp only [List.map_cons, renL, ih]; cases s <;> rfl
theorem StR.slot {env : Env} {M : List Ob} {a : Act} {w w' : World} {c : FO} {op : AOp} {u : Value} {dst : Option Nat} (h : StR C ρ n env M a w) (hs : Poison ρ s) (hl : s < M.length) (E : Ext M.length ρ ρ')
    (hv : AVR C (M ++ [c.ob]).length ρ' (.one (fval M.length op)) u) (hH : HR C ρ' (M ++ [c.ob]) w') (hF : FR C w') (hd : cDst n dst = true) :
    StR C (fillR ρ' s (ρ' M.length)) n (putE env dst (.one (fval s op))) (M.set s c.ob) (a.put dst u) w' := by
  have hp' : Poison ρ' s := by unfold Poison at hs ⊢; rw [E s hl]; exact hs
  have e1 : EnvR C M.length (fillR ρ' s (ρ' M.length)) env a := fun t => AVR.fill hp' (fun k hk => fillR_ne hk) ((h.env.ext (Nat.le_refl _) E) t)
  refine ⟨?_, ?_, hF, by rw [put_size]; exact h.size, by rw [put_defers]; exact h.defers⟩
  · rw [List.length_set]
    refine e1.put ?_ dst (fun d e => ?_)
    · cases hv with
      | one _ _ hv =>
        refine .one _ _ ?_
        unfold fval at hv ⊢
        split at hv
        · cases hv with
          | ptr _ _ b hk hh => exact .ptr s 0 b hl (by simp [fillR, hh])
        · cases hv with
          | row _ a0 m cap hk hh => exact .row s a0 m cap hl (by simp [fillR, hh])
    · subst e
      simp [cDst] at hd
      exact Nat.lt_of_lt_of_le hd h.size
  · have := hH.slot (L := M.length) (s := s) (by simp) hl
    rw [slotHp_new (fun f => c.ren_id f) h.heap hs] at this
    exact this
structure DInvF (C : Cx) (n N : Nat) (ops : Array Oper) (ais : List AI) (ld : List Bool) (fs : List (Nat × Nat × FO)) (E0 : Env) (H : Nat → List Ob) (V : Nat → AV) (listed : Array Bool) (a : Act) (w : World) (k : Nat) (ρ : Nat → RV) (Ed : Env) : Prop where
  size : listed.size = N
  le : k ≤ N
  closed : ∀ (i : Nat) (o : Oper), ops[i]? = some o → doneD listed i → ∀ e ∈ dirs o, doneD listed e
  loud : ∀ j, j < N → ld.getD j false = true → (doneD listed j ↔ j < k)
  val : ∀ j d, doneD listed j → dstAt ais j = some d → getT d Ed = V j
  old : ∀ t, (∀ j, doneD listed j → dstAt ais j ≠ some t) → getT t Ed = getT t E0
  st : StR C ρ n Ed (killAll (H k) (pend fs listed)) a w
  poi : ∀ s ∈ pend fs listed, Poison ρ s
  slots : ∀ f ∈ fs, f.2.1 < (H k).length
def Kind (Γ : Nat → Callee) (P : Program) (n N : Nat) (ops : Array Oper) (ais : List AI) (ld : List Bool) (anc : List (List Nat)) (hs : List (List Ob)) (fs : List (Nat × Nat × FO)) (EN : Env) (i : Nat) (o : Oper) : Prop :=
  ∃ ai, ais[i]? = some ai ∧ ∃ ai0, cInstr P n ops o = some ai0 ∧ ai0.dst = ai.dst ∧
    (((∀ f ∈ fs, f.1 ≠ i) ∧ (freeK ai.op = true ∧ (callB ai.op = true → ∀ f ∈ fs, 0 < f.2.1) ∨ ∀ f ∈ fs, f.1 ∈ anc.getD i []) ∧ ∀ (env : Env) (hp hp1 : List Ob) (v : AV), stepI Γ env hp ai = some (v, hp1) → stepI Γ env hp ai0 = some (v, hp1)) ∨
     ∃ s c, (i, s, c) ∈ fs ∧ ai.op = .mv (.const (.one (fval s ai0.op))) ∧ ai.guard = none ∧ ai0.guard = none ∧ (∀ Ed : Env, (∀ t ∈ opT ai0.op, getT t Ed = getT t EN) → ∀ M, evOp Γ Ed M ai0.op = some (.one (fval M.length ai0.op), M ++ [c.ob])) ∧
      (∀ t ∈ opT ai0.op, ∀ j, j < N → dstAt ais j = some t → j < i ∧ j ∈ anc.getD i []) ∧ ∀ k, k ≤ N → offD N ld anc i k = true ∨ (hs.getD (rank ld k) [])[s]? = some c.ob)
theorem draw_anyF {N : Nat} {ops : Array Oper} {ais : List AI} {ld : List Bool} {anc : List (List Nat)} {ck : List (Nat × List Nat)} {fs : List (Nat × Nat × FO)} {E : Nat → Env} {H : Nat → List Ob} {V : Nat → AV} {hs : List (List Ob)} {rts : List SV}
    (hΓ : ∀ f, Sound C.P f (Γ f)) (hN : ops.size = N) (hi : ∀ (i : Nat) (o : Oper), ops[i]? = some o → Kind Γ C.P n N ops ais ld anc hs fs (E N) i o) (fsN0 : ∀ f ∈ fs, f.1 < N) (huf : ∀ f ∈ fs, ∀ g ∈ fs, f.1 = g.1 ∨ f.2.1 = g.2.1 → f = g) (S : Static N ops.toList ais ld anc ck)
    (hstep : ∀ (i : Nat) (ai : AI), ais[i]? = some ai → stepI Γ (E i) (H i) ai = some (V i, H (i + 1)) ∧ E (i + 1) = putE (E i) ai.dst (V i))
    (hrank : ∀ k, k ≤ N → hs.getD (rank ld k) [] = H k)
    (hck : ∀ c ∈ ck, ∀ ai, ais[c.1]? = some ai → ∃ d, ai.dst = some d ∧ ∀ r ∈ c.2, ∃ hp', stepI Γ (E N) (hs.getD r []) ai = some (getT d (E N), hp')) :
    ∀ (fuel : Nat) (listed : Array Bool) (a : Act) (w : World) (k : Nat) (ρ : Nat → RV) (Ed : Env), ((List.range N).filter fun j => !listed.getD j false).length ≤ fuel → DInvF C n N ops ais ld fs (E 0) H V listed a w k ρ Ed →
      wpAny C.P .any ops (QR C n .norm ⟨E N, rts, H N⟩) fuel listed a w := by
  -- ahead: what the order cannot touch
  have un : ∀ i, i < N → ∃ ai, ais[i]? = some ai := fun i h => ⟨_, List.getElem?_eq_getElem (by rw [S.len]; exact h)⟩
  have uo : ∀ i, i < N → ∃ o, ops[i]? = some o := fun i h => ⟨_, Array.getElem?_eq_getElem (by omega)⟩
  have dlt : ∀ j d, dstAt ais j = some d → j < N := by
    intro j d h
    unfold dstAt at h
    obtain ⟨ai, h, _⟩ := bind_some h
    have := (List.getElem?_eq_some_iff.1 h).1
    rw [S.len] at this; exact this
  have uniq : ∀ i j d, dstAt ais i = some d → dstAt ais j = some d → i = j := by
    intro i j d h1 h2
    rcases Nat.lt_trichotomy i j with h | h | h
    · exact absurd h1 (S.dst j i d (dlt _ _ h2) h h2)
    · exact h
    · exact absurd h2 (S.dst i j d (dlt _ _ h1) h h1)
  have dstE : ∀ i ai, ais[i]? = some ai → dstAt ais i = ai.dst := fun i ai h => by simp [dstAt, h]
  have look : ∀ i, i ≤ N → ∀ t, ((∀ j, j < i → dstAt ais j ≠ some t) → getT t (E i) = getT t (E 0)) ∧ (∀ j, j < i → dstAt ais j = some t → getT t (E i) = V j) := by
    intro i
    induction i with
    | zero => intro _ t; exact ⟨fun _ => rfl, fun j hj => by omega⟩
    | succ i ih =>
      intro hle t
      obtain ⟨ai, hai⟩ := un i (by omega)
      rw [(hstep i ai hai).2]
      have hd := dstE i ai hai
      obtain ⟨h1, h2⟩ := ih (by omega) t
      refine ⟨fun h => ?_, fun j hj e => ?_⟩
      · cases e : ai.dst with
        | none => simp only [putE]; exact h1 fun j hj => h j (by omega)
        | some d =>
          simp only [putE, getT]
          rw [if_neg (by rintro rfl; exact h i (by omega) (by rw [hd, e]))]
          exact h1 fun j hj => h j (by omega)
      · by_cases hji : j = i
        · subst hji
          rw [hd] at e; rw [e]; simp [putE, getT]
        · cases e' : ai.dst with
          | none => simp only [putE]; exact h2 j (by omega) e
          | some d =>
            simp only [putE, getT]
            rw [if_neg (by rintro rfl; exact hji (uniq j i t e (by rw [hd, e'])))]
            exact h2 j (by omega) e
  have lookN : ∀ i, i ≤ N → ∀ t, (∀ j, j < N → i ≤ j → dstAt ais j ≠ some t) → getT t (E N) = getT t (E i) := by
    intro i hi t h
    by_cases hex : ∃ j, j < N ∧ dstAt ais j = some t
    · obtain ⟨j, hj, e⟩ := hex
      have hji : j < i := Nat.lt_of_not_le fun h' => h j hj h' e
      rw [(look N (Nat.le_refl _) t).2 j hj e, (look i hi t).2 j hji e]
    · have h' : ∀ j, j < N → dstAt ais j ≠ some t := fun j hj e => hex ⟨j, hj, e⟩
      rw [(look N (Nat.le_refl _) t).1 h', (look i hi t).1 fun j hj => h' j (by omega)]
  have quiet : ∀ i k, k ≤ i → i ≤ N → (∀ j, k ≤ j → j < i → ld.getD j false = false) → H i = H k := by
    intro i k hki
    induction hki with
    | refl => intros; rfl
    | @step m hkm ih =>
      intro hN' hq
      obtain ⟨ai, hai⟩ := un m (by omega)
      have hl := hq m hkm (by omega)
      have hk2 : opKind ai.op ≠ 2 := fun e => by rw [(S.kind m ai hai).2 e] at hl; cases hl
      rw [quiet_step hk2 (hstep m ai hai).1]
      exact ih (by omega) fun j h1 h2 => hq j h1 (by omega)
  have anc_done : ∀ (listed : Array Bool), listed.size = N → (∀ (i : Nat) (o : Oper), ops[i]? = some o → doneD listed i → ∀ e ∈ dirs o, doneD listed e) → ∀ i, doneD listed i → ∀ j ∈ anc.getD i [], doneD listed j := by
    intro listed hsz hcl i
    induction i using Nat.strongRecOn with
    | _ i ih =>
      intro hd j hj
      have hiN : i < N := by
        rcases Nat.lt_or_ge i N with h | h
        · exact h
        · unfold doneD at hd; rw [Array.getD_eq_getD_getElem?, Array.getElem?_eq_none (by omega)] at hd; cases hd
      obtain ⟨o, ho⟩ := uo i hiN
      obtain ⟨h1, h2⟩ := S.edge i hiN o (by simpa using ho)
      rcases h2 j hj with h | ⟨e, he, h⟩
      · exact hcl i o ho hd j h
      · exact ih e (h1 e he) (hcl i o ho hd e he) j h
  have fsN : ∀ f ∈ fs, f.1 < N := fsN0
  -- when all is done
  have fin : ∀ (listed : Array Bool) (a : Act) (w : World) (k : Nat) (ρ : Nat → RV) (Ed : Env), DInvF C n N ops ais ld fs (E 0) H V listed a w k ρ Ed → (∀ j, j < N → doneD listed j) → QR C n .norm ⟨E N, rts, H N⟩ .normal a w := by
    intro listed a w k ρ Ed I hall
    have hH : H N = H k := quiet N k I.le (Nat.le_refl _) fun j h1 h2 => by
      cases hl : ld.getD j false
      · rfl
      · have := (I.loud j h2 hl).1 (hall j h2); omega
    have hst : StR C ρ n Ed (H k) a w := by
      have e : pend fs listed = [] := by
        cases hp : pend fs listed with
        | nil => rfl
        | cons s l =>
          exfalso
          obtain ⟨f, hf, _, h2⟩ := mem_pend.1 (show s ∈ pend fs listed by rw [hp]; simp)
          have hfN : f.1 < N := fsN f hf
          exact h2 (hall _ hfN)
      have := I.st
      rw [e] at this
      exact this
    refine ⟨rfl, ρ, ⟨fun t => ?_, by rw [hH]; exact hst.heap, hst.fr, hst.size, hst.defers⟩⟩
    have hT : getT t (E N) = getT t Ed := by
      by_cases hex : ∃ j, j < N ∧ dstAt ais j = some t
      · obtain ⟨j, hj, e⟩ := hex
        rw [(look N (Nat.le_refl _) t).2 j hj e, I.val j t (hall j hj) e]
      · rw [(look N (Nat.le_refl _) t).1 fun j hj e => hex ⟨j, hj, e⟩, I.old t fun j hd e => hex ⟨j, dlt j t e, e⟩]
    rw [hT, hH]
    exact hst.env t
  have rdy : ∀ (listed : Array Bool), listed.size = N → Region.ready .any ops listed = [] → ∀ j, j < N → doneD listed j := by
    intro listed hsz hr j
    induction j using Nat.strongRecOn with
    | _ j ih =>
      intro hj
      obtain ⟨o, ho⟩ := uo j hj
      cases hd : listed.getD j false with
      | true => exact hd
      | false =>
        exfalso
        have : j ∈ Region.ready .any ops listed := by
          rw [mem_ready]
          refine ⟨?_, o, ho, fun e he hb => ?_⟩
          · rw [Array.getD_eq_getD_getElem?, Array.getElem?_eq_getElem (by omega)] at hd ⊢; exact hd
          · have hlt := (S.edge j hj o (by simpa using ho)).1 e.on (mem_dirs.2 ⟨e, he, hb, rfl⟩)
            exact ih e.on hlt (by omega)
        rw [hr] at this; cases this
  intro fuel
  induction fuel with
  | zero =>
    intro listed a w k ρ Ed hf I
    have hall : ∀ j, j < N → doneD listed j := by
      intro j hj
      cases hd : listed.getD j false with
      | true => exact hd
      | false =>
        have : j ∈ (List.range N).filter fun j => !listed.getD j false := by simp only [List.mem_filter, List.mem_range, hd]; exact ⟨hj, rfl⟩
        have := List.length_pos_of_mem this
        omega
    refine ⟨?_, fin listed a w k ρ Ed I hall⟩
    cases hr : Region.ready .any ops listed with
    | nil => rfl
    | cons x xs =>
      exfalso
      have hx : x ∈ Region.ready .any ops listed := by rw [hr]; simp
      obtain ⟨h0, o, ho, _⟩ := mem_ready.1 hx
      have hxN : x < N := by have := (Array.getElem?_eq_some_iff.1 ho).1; omega
      have := hall x hxN
      unfold doneD at this
      rw [Array.getD_eq_getD_getElem?, Array.getElem?_eq_getElem (by rw [I.size]; exact hxN)] at h0 this
      simp at h0 this; rw [h0] at this; cases this
  | succ fuel ihf =>
    intro listed a w k ρ Ed hf I
    refine ⟨fun hr => fin listed a w k ρ Ed I (rdy listed I.size hr), fun i hir => ?_⟩
    obtain ⟨h0, o, ho, hedges⟩ := mem_ready.1 hir
    have hiN : i < N := by have := (Array.getElem?_eq_some_iff.1 ho).1; omega
    have hnd : ¬ doneD listed i := by
      unfold doneD
      rw [Array.getD_eq_getD_getElem?, Array.getElem?_eq_getElem (by rw [I.size]; exact hiN)] at h0 ⊢
      simp at h0 ⊢; exact h0
    obtain ⟨ai, hai, ai0, hci, hd0, hkd⟩ := hi i o ho
    have hdirs : ∀ e ∈ dirs o, doneD listed e := fun e he => by
      obtain ⟨x, h1, h2, rfl⟩ := mem_dirs.1 he
      exact hedges x h1 h2
    have hanc : ∀ j ∈ anc.getD i [], doneD listed j := fun j hj => by
      rcases (S.edge i hiN o (by simpa using ho)).2 j hj with h | ⟨e, he, h⟩
      · exact hdirs j h
      · exact anc_done listed I.size I.closed e (hdirs e he) j h
    have hback : ∀ j, doneD listed j → i ∈ anc.getD j [] → False := fun j hd hj => hnd (anc_done listed I.size I.closed j hd i hj)
    -- what the operation looks at is what it was in the text's order
    have look_i : ∀ t ∈ aiT ai, getT t Ed = getT t (E i) := by
      intro t ht
      by_cases hex : ∃ j, j < N ∧ dstAt ais j = some t
      · obtain ⟨j, hj, e⟩ := hex
        have old : ¬ doneD listed j → i ≤ j → getT t Ed = getT t (E i) := fun hd hle => by
          rw [I.old t fun j' hd' e' => hd (uniq j' j t e' e ▸ hd'), (look i (by omega) t).1 fun j' hj' e' => by have := uniq j' j t e' e; omega]
        rcases S.tmp i ai hai t ht j hj e with h | ⟨h1, h2⟩ | ⟨h1, h2⟩
        · exact old (h ▸ hnd) (by omega)
        · rw [I.val j t (hanc j h2) e, (look i (by omega) t).2 j h1 e]
        · exact old (fun hd => hback j hd h2) (by omega)
      · rw [I.old t fun j hd e => hex ⟨j, dlt j t e, e⟩, (look i (by omega) t).1 fun j hj e => hex ⟨j, by omega, e⟩]
    obtain ⟨hs1, hs2⟩ := hstep i ai hai
    -- what it comes to
    have run : ∃ k', k' ≤ N ∧ stepI Γ Ed (H k) ai = some (V i, H k') ∧ (∀ j, j < N → ld.getD j false = true → (doneD listed j ∨ j = i ↔ j < k')) ∧ (opKind ai.op ≠ 2 → k' = k) := by
      have hcong : ∀ h, stepI Γ Ed h ai = stepI Γ (E i) h ai := fun h => step_congr look_i h
      have hkind := S.kind i ai hai
      by_cases h2 : opKind ai.op = 2
      · have hl := hkind.2 h2
        have hki : k ≤ i := Nat.le_of_not_lt fun h => hnd ((I.loud i hiN hl).2 h)
        have hH : H i = H k := quiet i k hki (by omega) fun j h1 h3 => by
          cases e : ld.getD j false
          · rfl
          · have := (I.loud j (by omega) e).1 (hanc j (S.loud i j hiN h3 hl e)); omega
        refine ⟨i + 1, hiN, by rw [hcong, ← hH]; exact hs1, fun j hj e => ⟨?_, fun hj' => ?_⟩, fun h => absurd h2 h⟩
        · rintro (h | h)
          · have := (I.loud j hj e).1 h; omega
          · omega
        · by_cases hji : j = i
          · exact .inr hji
          · exact .inl (hanc j (S.loud i j hiN (by omega) hl e))
      · have hl : ld.getD i false = false := by
          cases e : ld.getD i false
          · rfl
          · exact absurd (hkind.1 e) h2
        refine ⟨k, I.le, ?_, fun j hj e => ?_, fun _ => rfl⟩
        · rw [hcong]
          by_cases h3 : opKind ai.op = 0
          · exact (pure_step h3 hs1).2 _
          · have h1 : opKind ai.op = 1 := by
              have : opKind ai.op ≤ 2 := by
                unfold opKind; split <;> first | omega | skip
                all_goals (split <;> omega)
              omega
            obtain ⟨hr, hr2⟩ := S.read i ai hai h1
            rcases hr k I.le with h | h | ⟨c, hc, hci', hck'⟩
            · exfalso
              simp only [offD, Bool.or_eq_true, List.any_eq_true, Bool.and_eq_true, decide_eq_true_eq, List.mem_range] at h
              rcases h with ⟨j, hj, hlj, hkj⟩ | ⟨j, hj, ⟨hlj, hkj⟩, hij⟩
              · have hjd := hanc j hj
                have hjN : j < N := by
                  rcases Nat.lt_or_ge j N with h | h
                  · exact h
                  · unfold doneD at hjd; rw [Array.getD_eq_getD_getElem?, Array.getElem?_eq_none (by rw [I.size]; omega)] at hjd; cases hjd
                have := (I.loud j hjN hlj).1 hjd
                omega
              · exact hback j ((I.loud j hj hlj).2 hkj) (by simpa using hij)
            · have hH : H k = H i := by rw [← hrank k I.le, ← hrank i (by omega), h]
              have hq : H (i + 1) = H i := quiet_step h2 hs1
              rw [hH]; rw [hq] at hs1; exact hs1
            · obtain ⟨d, hd, hrun⟩ := hck c hc ai (by rw [hci']; exact hai)
              obtain ⟨hp4, h4⟩ := hrun _ hck'
              rw [hrank k I.le] at h4
              obtain rfl := quiet_step h2 h4
              rw [step_congr (env' := E i) fun t ht => lookN i (by omega) t fun j hj hij => hr2 ⟨c, hc, hci'⟩ t ht j hj hij] at h4
              rw [h4, (look N (Nat.le_refl _) d).2 i hiN (by rw [dstE i ai hai, hd])]
        · constructor
          · rintro (h | h)
            · exact (I.loud j hj e).1 h
            · subst h; rw [hl] at e; cases e
          · intro h; exact .inl ((I.loud j hj e).2 h)
    obtain ⟨k', hk', hrun, hloud, hkk⟩ := run
    obtain ⟨hdc, hdst0, _, _⟩ := instr_inv hci
    have hdst : ai.dst = o.dst := by rw [← hd0]; exact hdst0
    have hsz : i < listed.size := by rw [I.size]; exact hiN
    have cont : ∀ (ρ' : Nat → RV) (u : Value) (w' : World), StR C ρ' n (putE Ed o.dst (V i)) (killAll (H k') (pend fs (listed.setIfInBounds i true))) (a.put o.dst u) w' → (∀ s ∈ pend fs (listed.setIfInBounds i true), Poison ρ' s) → (H k).length ≤ (H k').length → wpAny C.P .any ops (QR C n .norm ⟨E N, rts, H N⟩) fuel (listed.setIfInBounds i true) (a.put o.dst u) w' := fun ρ' u w' hst' hpo' hlen' => by
      refine ihf _ _ _ k' ρ' (putE Ed o.dst (V i)) ?_ ⟨by simp [I.size], hk', fun j o' ho' hd e he => ?_, fun j hj e => ?_, fun j d hd e => ?_, fun t ht => ?_, hst', hpo', fun f hf => Nat.lt_of_lt_of_le (I.slots f hf) hlen'⟩
      · have : ((List.range N).filter fun j => !(listed.setIfInBounds i true).getD j false).length < ((List.range N).filter fun j => !listed.getD j false).length := by
          refine filter_lt (i := i) (fun x hx => ?_) (List.mem_range.2 hiN) ?_ ?_
          · simp only [Bool.not_eq_true'] at hx ⊢
            cases e : listed.getD x false
            · rfl
            · rw [getD_set_true e] at hx; cases hx
          · simp only [Bool.not_eq_true']
            cases e : listed.getD i false
            · rfl
            · exact absurd e hnd
          · simp only [Bool.not_eq_false']
            exact (done_set hsz).2 (.inr rfl)
        omega
      · rw [done_set hsz] at hd ⊢
        rcases hd with hd | rfl
        · exact .inl (I.closed j o' ho' hd e he)
        · rw [ho] at ho'; simp at ho'; subst ho'
          exact .inl (hdirs e he)
      · rw [done_set hsz]; exact hloud j hj e
      · rw [done_set hsz] at hd
        have hdi := dstE i ai hai
        by_cases hji : j = i
        · subst hji
          rw [hdi, hdst] at e
          rw [e]; simp [putE, getT]
        · have hd' : doneD listed j := hd.resolve_right hji
          cases e' : o.dst with
          | none => simp only [putE]; exact I.val j d hd' e
          | some d' =>
            simp only [putE, getT]
            rw [if_neg (by rintro rfl; exact hji (uniq j i d e (by rw [hdi, hdst, e'])))]
            exact I.val j d hd' e
      · have hdi := dstE i ai hai
        cases e' : o.dst with
        | none => simp only [putE]; exact I.old t fun j hd => ht j ((done_set hsz).2 (.inl hd))
        | some d' =>
          simp only [putE, getT]
          rw [if_neg (by rintro rfl; exact ht i ((done_set hsz).2 (.inr rfl)) (by rw [hdi, hdst, e']))]
          exact I.old t fun j hd => ht j ((done_set hsz).2 (.inl hd))
    have pend_sub : ∀ s, s ∈ pend fs (listed.setIfInBounds i true) ↔ ∃ f ∈ fs, f.2.1 = s ∧ ¬ doneD listed f.1 ∧ f.1 ≠ i := fun s => by
      rw [mem_pend]
      constructor
      · rintro ⟨f, h1, h2, h3⟩
        rw [done_set hsz] at h3
        exact ⟨f, h1, h2, fun h => h3 (.inl h), fun h => h3 (.inr h)⟩
      · rintro ⟨f, h1, h2, h3, h4⟩
        refine ⟨f, h1, h2, ?_⟩
        rw [done_set hsz]
        rintro (h | h)
        · exact h3 h
        · exact h4 h
    have plt : ∀ s ∈ pend fs listed, s < (H k).length := fun s hs => by
      obtain ⟨f, hf, rfl, _⟩ := mem_pend.1 hs
      exact I.slots f hf
    have key : if Region.wanted o (yielded ops a.tmps) = true then o.wp C.P a w (wpAny C.P .any ops (QR C n .norm ⟨E N, rts, H N⟩) fuel (listed.setIfInBounds i true)) (QR C n .norm ⟨E N, rts, H N⟩) else wpAny C.P .any ops (QR C n .norm ⟨E N, rts, H N⟩) fuel (listed.setIfInBounds i true) (a.put o.dst undef) w := by
      rcases hkd with ⟨hnf, hfree, href⟩ | ⟨s, c, hmem, hop, hgd, hgd0, hev, htmp, hslot⟩
      · have epend : pend fs (listed.setIfInBounds i true) = pend fs listed := by
          unfold pend
          congr 1
          refine List.filter_congr fun f hf => ?_
          congr 1
          exact getD_set_ne false (Ne.symm (hnf f hf))
        rw [epend] at cont
        have hmask : stepI Γ Ed (killAll (H k) (pend fs listed)) ai = some (V i, killAll (H k') (pend fs listed)) := by
          rcases hfree with ⟨hf, hf0⟩ | hf
          · refine step_kill I.poi (fun hcb h0 => ?_) plt I.st.env I.st.heap hf hrun
            obtain ⟨f, f1, f2, _⟩ := mem_pend.1 h0
            have := hf0 hcb f f1
            omega
          · have e : pend fs listed = [] := by
              cases hp : pend fs listed with
              | nil => rfl
              | cons x l =>
                exfalso
                obtain ⟨f, hff, _, h2⟩ := mem_pend.1 (show x ∈ pend fs listed by rw [hp]; simp)
                exact h2 (hanc _ (hf f hff))
            rw [e]; exact hrun
        refine step_ok hΓ hci I.st (href _ _ _ _ hmask) (fun ρ' u w' h1 h2 h3 h4 h5 => ?_)
        refine cont ρ' u w' (I.st.next h1 h2 h3 h4 h5 hdc) (fun s hs => ?_) (by simpa [killAll_length] using h1)
        have := I.poi s hs
        unfold Poison at this ⊢
        rw [h2 s (by rw [killAll_length]; exact plt s hs)]; exact this
      · have hs : s ∈ pend fs listed := mem_pend.2 ⟨_, hmem, rfl, hnd⟩
        have hsl := plt s hs
        have hVi : V i = .one (fval s ai0.op) := by
          obtain ⟨dst, g, op⟩ := ai
          simp only at hop hgd
          subst hop hgd
          simp only [stepI, evOp, getO, Option.some.injEq, Prod.mk.injEq] at hs1
          exact hs1.1.symm
        obtain rfl := hkk (by rw [hop]; simp [opKind])
        have hstep0 : stepI Γ Ed (killAll (H k') (pend fs listed)) ai0 = some (.one (fval (killAll (H k') (pend fs listed)).length ai0.op), killAll (H k') (pend fs listed) ++ [c.ob]) := by
          obtain ⟨dst0, g0, op0⟩ := ai0
          simp only at hgd0
          subst hgd0
          simp only [stepI]
          refine hev Ed (fun t ht => ?_) _
          by_cases hex : ∃ j, j < N ∧ dstAt ais j = some t
          · obtain ⟨j, hj, e⟩ := hex
            rw [I.val j t (hanc j (htmp t ht j hj e).2) e, (look N (Nat.le_refl _) t).2 j hj e]
          · rw [I.old t fun j hd e => hex ⟨j, dlt j t e, e⟩, (look N (Nat.le_refl _) t).1 fun j hj e => hex ⟨j, by omega, e⟩]
        have hHs : (H k')[s]? = some c.ob := by
          rcases hslot k' I.le with h | h
          · exfalso
            simp only [offD, Bool.or_eq_true, List.any_eq_true, Bool.and_eq_true, decide_eq_true_eq, List.mem_range] at h
            rcases h with ⟨j, hj, hlj, hkj⟩ | ⟨j, hj, ⟨hlj, hkj⟩, hij⟩
            · have hjd := hanc j hj
              have hjN : j < N := by
                rcases Nat.lt_or_ge j N with h | h
                · exact h
                · unfold doneD at hjd; rw [Array.getD_eq_getD_getElem?, Array.getElem?_eq_none (by rw [I.size]; omega)] at hjd; cases hjd
              have := (I.loud j hjN hlj).1 hjd
              omega
            · exact hback j ((I.loud j hj hlj).2 hkj) (by simpa using hij)
          · rw [hrank k' I.le] at h; exact h
        refine step_ok hΓ hci I.st hstep0 (fun ρ' u w' h1 h2 h3 h4 h5 => ?_)
        have hsm : s < (killAll (H k') (pend fs listed)).length := by rw [killAll_length]; exact hsl
        have hpend : ∀ x, x ∈ pend fs (listed.setIfInBounds i true) ↔ x ∈ pend fs listed ∧ x ≠ s := fun x => by
          rw [pend_sub, mem_pend]
          constructor
          · rintro ⟨f, f1, rfl, f3, f4⟩
            refine ⟨⟨f, f1, rfl, f3⟩, fun e => f4 ?_⟩
            rw [huf f f1 _ hmem (.inr e)]
          · rintro ⟨⟨f, f1, rfl, f3⟩, hne⟩
            refine ⟨f, f1, rfl, f3, fun e => hne ?_⟩
            rw [huf f f1 _ hmem (.inl e)]
        have hset : (killAll (H k') (pend fs listed)).set s c.ob = killAll (H k') (pend fs (listed.setIfInBounds i true)) := by
          apply List.ext_getElem?
          intro x
          rw [List.getElem?_set]
          by_cases e : s = x
          · subst e
            have : ¬ s ∈ pend fs (listed.setIfInBounds i true) := fun h => ((hpend s).1 h).2 rfl
            rw [if_pos rfl, if_pos hsm, killAll_at, if_neg (fun h => this h.1), hHs]
          · rw [if_neg e, killAll_at, killAll_at]
            have : x ∈ pend fs (listed.setIfInBounds i true) ↔ x ∈ pend fs listed := by
              rw [hpend]; exact ⟨fun h => h.1, fun h => ⟨h, Ne.symm e⟩⟩
            simp [this]
        have hst' := StR.slot (s := s) I.st (I.poi s hs) hsm h2 h3 h4 h5 hdc
        rw [hset] at hst'
        refine cont _ u w' (by rw [hVi]; exact hst') (fun x hx => ?_) (Nat.le_refl _)
        obtain ⟨hx1, hx2⟩ := (hpend x).1 hx
        have := I.poi x hx1
        unfold Poison at this ⊢
        rw [fillR_ne hx2, h2 x (by rw [killAll_length]; exact plt x hx1)]; exact this
    unfold wpOp
    rw [ho]
    simp only
    split
    · rename_i hw; rw [if_pos hw] at key; exact .inl key
    · rename_i hw; rw [if_neg hw] at key; exact key
theorem StR.deads {env : Env} {hp : List Ob} {a : Act} {w : World} (m : Nat) (h : StR C ρ n env hp a w) : StR C (fun k => if k < hp.length then ρ k else ⟨.bool false, 0⟩) n env (hp ++ List.replicate m .dead) a w := by
  have E : Ext hp.length ρ (fun k => if k < hp.length then ρ k else ⟨.bool false, 0⟩) := fun k hk => by simp [hk]
  have key : ∀ k o, (hp ++ List.replicate m Ob.dead)[k]? = some o → o ≠ .dead → k < hp.length ∧ hp[k]? = some o := by
    intro k o ho hd
    rcases Nat.lt_or_ge k hp.length with hk | hk
    · rw [List.getElem?_append_left hk] at ho; exact ⟨hk, ho⟩
    · rw [List.getElem?_append_right hk, List.getElem?_replicate] at ho
      split at ho
      · simp at ho; exact absurd ho.symm hd
      · cases ho
  refine ⟨by rw [List.length_append]; exact h.env.ext (Nat.le_add_right _ _) E, ⟨fun k o ho => ?_, fun j k b hjk hj hk hb => ?_⟩, h.fr, h.size, h.defers⟩
  · by_cases hd : o = .dead
    · subst hd; trivial
    · obtain ⟨hk, ho'⟩ := key k o ho hd
      rw [List.length_append]
      exact (h.heap.ob k o ho').ext (Nat.le_add_right _ _) E hk
  · obtain ⟨oj, h1, h2⟩ := hj
    obtain ⟨ok, h3, h4⟩ := hk
    obtain ⟨j1, j2⟩ := key j oj h1 h2
    obtain ⟨k1, k2⟩ := key k ok h3 h4
    rw [if_pos j1] at hb
    rw [if_pos k1]
    exact h.heap.ne j k b hjk ⟨oj, j2, h2⟩ ⟨ok, k2, h4⟩ hb
theorem ckFs_get {l : List (AI × Bool × Option Nat)} {env : Env} {hs : List (List Ob)} : ∀ {cf : List (Nat × List Nat)} {cs : List FO} {s : Nat}, ckFs Γ l env hs s cs cf = true → cs.length = cf.length ∧ ∀ j i rs, cf[j]? = some (i, rs) → ∃ c, cs[j]? = some c ∧ ckF1 Γ env c l[i]? = true ∧ ∀ r ∈ rs, (hs.getD r [])[s + j]? = some c.ob
  | [], [], _, _ => ⟨rfl, by simp⟩
  | [], _ :: _, _, h => by simp [ckFs] at h
  | _ :: _, [], _, h => by simp [ckFs] at h
  | (i0, rs0) :: cf, c0 :: cs, s, h => by
    simp only [ckFs, Bool.and_eq_true] at h
    obtain ⟨h1, h2, h3⟩ := h
    obtain ⟨h4, h5⟩ := ckFs_get h3
    refine ⟨by simp [h4], fun j i rs hj => ?_⟩
    cases j with
    | zero =>
      simp at hj; obtain ⟨rfl, rfl⟩ := hj
      refine ⟨c0, rfl, h1, ?_⟩
      have : ∀ rs : List Nat, ckSl hs s c0 rs = true → ∀ r ∈ rs, (hs.getD r [])[s]? = some c0.ob := by
        intro rs
        induction rs with
        | nil => simp
        | cons r rs ih =>
          intro h r' hr
          simp only [ckSl, Bool.and_eq_true] at h
          rcases List.mem_cons.1 hr with e | e
          · subst e
            have h1 := h.1
            unfold obIs at h1
            split at h1
            · rename_i d hd; rw [hd]; simp [rcIs] at h1; rw [← h1]; rfl
            · rename_i l hd
              rw [hd]
              unfold zO at h1
              split at h1
              · rename_i m hm; simp [rcIs] at h1; rw [← h1, scsOf_inv hm]; rfl
              · simp [rcIs] at h1
            · cases h1
          · exact ih h.2 r' e
      simpa using this _ h2
    | succ j =>
      obtain ⟨c, e1, e2, e3⟩ := h5 j i rs (by simpa using hj)
      refine ⟨c, by simpa using e1, e2, fun r hr => ?_⟩
      have := e3 r hr
      rw [show s + (j + 1) = s + 1 + j by omega]; exact this
theorem rowsOf_length : ∀ cs : List FO, (rowsOf cs).length = cs.length
  | [] => rfl
  | c :: cs => by simp [rowsOf, rowsOf_length cs]
theorem Static.turn {N : Nat} {os : List Oper} {ais ais2 : List AI} {ld : List Bool} {anc : List (List Nat)} {ck : List (Nat × List Nat)} (S : Static N os ais ld anc ck) (hl : ais2.length = ais.length)
    (h : ∀ (i : Nat) (a : AI), ais2[i]? = some a → ∃ a1, ais[i]? = some a1 ∧ a1.dst = a.dst ∧ opKind a1.op = opKind a.op ∧ aiT a1 = aiT a) : Static N os ais2 ld anc ck := by
  have hd : ∀ i, dstAt ais2 i = dstAt ais i := by
    intro i
    unfold dstAt
    cases e : ais2[i]? with
    | none =>
      have : ais[i]? = none := by rw [List.getElem?_eq_none_iff] at e ⊢; omega
      rw [this]
    | some a =>
      obtain ⟨a1, h1, h2, _⟩ := h i a e
      rw [h1]; exact h2.symm
  refine ⟨by rw [hl]; exact S.len, S.llen, S.edge, fun i a hi => ?_, S.loud, fun i j d h1 h2 h3 => ?_, fun i a hi t ht j hj e => ?_, fun i a hi hk => ?_⟩
  · obtain ⟨a1, h1, h2, h3, h4⟩ := h i a hi
    rw [← h3]; exact S.kind i a1 h1
  · rw [hd] at h3 ⊢; exact S.dst i j d h1 h2 h3
  · obtain ⟨a1, h1, h2, h3, h4⟩ := h i a hi
    rw [hd] at e
    exact S.tmp i a1 h1 t (by rw [h4]; exact ht) j hj e
  · obtain ⟨a1, h1, h2, h3, h4⟩ := h i a hi
    obtain ⟨r1, r2⟩ := S.read i a1 h1 (by rw [h3]; exact hk)
    refine ⟨r1, fun hc t ht j hj hij => ?_⟩
    rw [hd]
    exact r2 hc t (by rw [h4]; exact ht) j hj hij
theorem drawG_ok {K : Nat} {id : Nat} {ops : Array Oper} {ais : List AI} {L : List (AI × Bool × Option Nat)} {anc : List (List Nat)} {ld : List Bool} {ck cf : List (Nat × List Nat)} {ac : AC} {st st' : St} {ex : Ex} {ρ : Nat → RV} {a : Act} {w : World} (hΓ : ∀ f, Sound C.P f (Γ f)) (hm : C.P.follows .mixedOrders = true) (hL : L.map (·.1) = ais)
    (hi : ∀ (i : Nat) (o : Oper), ops[i]? = some o → ∃ ai, ais[i]? = some ai ∧ ∃ ai0, cInstr C.P n ops o = some ai0 ∧ ai0.dst = ai.dst ∧ (∀ (env : Env) (hp hp1 : List Ob) (v : AV), stepI Γ env hp ai = some (v, hp1) → stepI Γ env hp ai0 = some (v, hp1)) ∧ (isF ai.op = true → ai0 = ai)) (hc : drawG ops.toList ais L anc ld ck cf = some ac)
    (hst : StR C ρ n st.env st.hp a w) (h : evC Γ K ac st = some (ex, st')) : (Code.region id ops true).wp C.P (QR C n ex st') a w := by
  unfold drawG at hc
  split at hc
  · rename_i hok
    obtain ⟨hok, hld, hokF⟩ := hok
    simp at hc; subst hc
    have S0 := static_of hok
    have hN : ops.toList.length = ops.size := by simp
    rw [hN] at S0 hokF
    simp only [evC] at h
    unfold normC at h
    split at h
    · simp at h
    · rename_i st1 hs1
      simp at h; obtain ⟨rfl, rfl⟩ := h
      unfold secF at hs1
      split at hs1
      · simp at hs1
      · rename_i cs hcs
        by_cases hbare : bareB st.hp L = true
        · rw [if_pos hbare] at hs1; cases hs1
        rw [if_neg hbare] at hs1
        have hcall : ∀ x ∈ L, callB x.1.op = true → 0 < st.hp.length := by
          intro x hx hcb
          unfold bareB at hbare
          simp only [Bool.and_eq_true, List.any_eq_true, not_and, not_exists] at hbare
          rcases Nat.eq_zero_or_pos st.hp.length with h0 | h0
          · exact absurd hcb (fun hcb => hbare (by rw [List.isEmpty_iff]; exact List.length_eq_zero_iff.1 h0) x hx hcb)
          · exact h0
        unfold finD at hs1
        split at hs1
        · simp at hs1
        · rename_i envN hpN hsN hev0
          unfold finF at hev0
          split at hev0
          · simp at hev0
          · rename_i envN' hpN' hsN' hev
            split at hev0
            · rename_i hckF
              simp at hev0
              obtain ⟨rfl, rfl, rfl⟩ := hev0
              split at hs1
              · rename_i hck
                simp at hs1; subst hs1
                generalize hn0 : st.hp.length = n0 at hev hck hckF
                obtain ⟨hlen, hcsf⟩ := ckFs_get hckF
                -- the replaced list
                have rep2 : ∀ x : AI × Bool × Option Nat, (repl1 n0 x).2 = (repl1 0 x).2 := fun x => by obtain ⟨ai, b, m⟩ := x; cases m <;> rfl
                have hmap : (L.map (repl1 n0)).map (·.2) = ld := by
                  rw [← hld, List.map_map, List.map_map]
                  exact List.map_congr_left fun x _ => rep2 x
                have g2 : ∀ i, ((L.map (repl1 n0)).map (·.1))[i]? = (L[i]?).map fun x => (repl1 n0 x).1 := fun i => by rw [List.map_map, List.getElem?_map]; rfl
                have S : Static ops.size ops.toList ((L.map (repl1 n0)).map (·.1)) ld anc ck := by
                  refine S0.turn (by simp) fun i x hx => ?_
                  rw [g2] at hx
                  obtain ⟨y, hy, rfl⟩ := Option.map_eq_some_iff.1 hx
                  refine ⟨(repl1 0 y).1, by simp [hy], ?_⟩
                  obtain ⟨ai, b, m⟩ := y
                  cases m <;> exact ⟨rfl, rfl, rfl⟩
                have hLlen : L.length = ops.size := by have := S.len; simpa using this
                obtain ⟨E, H, V, e1, e2, e3, e4, e5, e6⟩ := trace_of _ _ _ _ _ _ _ hev (fun p hp hb => by
                  obtain ⟨i, hi'⟩ := List.getElem?_of_mem hp
                  intro e
                  have h1 : ((L.map (repl1 n0)).map (·.1))[i]? = some p.1 := by rw [List.getElem?_map, hi']; rfl
                  have h2 : ld[i]? = some p.2 := by rw [← hmap, List.getElem?_map, hi']; rfl
                  have := (S.kind i p.1 h1).2 e
                  simp [List.getD, h2, hb] at this) ⟨[], rfl⟩
                have hzl : (L.map (repl1 n0)).length = ops.size := by simp [hLlen]
                rw [hzl] at e3 e4 e6
                rw [hmap] at e6
                subst e3 e4
                refine wp_region_any hm ?_
                simp only [okF, Bool.and_eq_true, List.all_eq_true, List.mem_range] at hokF
                obtain ⟨hF1, hF2⟩ := hokF
                -- the new rows
                have hfs : ∀ f, f ∈ (List.range cf.length).map (fun j => ((cf.getD j (0, [])).1, n0 + j, cs.getD j (.r (.ints .u8 [])))) → ∃ j i rs c, cf[j]? = some (i, rs) ∧ cs[j]? = some c ∧ f = (i, n0 + j, c) ∧ (∃ ai b, L[i]? = some (ai, b, some j)) := by
                  intro f hf
                  obtain ⟨j, hj, rfl⟩ := List.mem_map.1 hf
                  rw [List.mem_range] at hj
                  have h2 := hF2 j hj
                  unfold okF2 at h2
                  have hcj : cf[j]? = some cf[j] := List.getElem?_eq_getElem hj
                  rw [hcj] at h2
                  obtain ⟨c, hc, _, _⟩ := hcsf j cf[j].1 cf[j].2 hcj
                  refine ⟨j, cf[j].1, cf[j].2, c, hcj, hc, by simp [List.getD, hcj, hc], ?_⟩
                  simp only at h2
                  split at h2
                  · rename_i ai b x hx
                    simp at h2; subst h2
                    exact ⟨ai, b, hx⟩
                  · cases h2
                refine draw_anyF (fs := (List.range cf.length).map (fun j => ((cf.getD j (0, [])).1, n0 + j, cs.getD j (.r (.ints .u8 []))))) (hs := hsN') (anc := anc) (ck := ck) (V := V) hΓ rfl (fun i o ho => ?_) (fun f hf => ?_) (fun f hf g hg hfg => ?_) S (fun i ai hai => ?_) (fun k hk => ?_) (fun c hc ai hai => ?_) ops.size _ a _ 0 (fun k => if k < st.hp.length then ρ k else ⟨.bool false, 0⟩) st.env ?_ ?_
                · obtain ⟨ai, hai, ai0, hci, hd0, href, hisF⟩ := hi i o ho
                  have hiN : i < ops.size := (Array.getElem?_eq_some_iff.1 ho).1
                  obtain ⟨b, m, hLi⟩ : ∃ b m, L[i]? = some (ai, b, m) := by
                    rw [← hL, List.getElem?_map] at hai
                    obtain ⟨⟨x, b, m⟩, hx, rfl⟩ := Option.map_eq_some_iff.1 hai
                    exact ⟨b, m, hx⟩
                  have hf1 := hF1 i hiN
                  rw [hLi] at hf1
                  cases m with
                  | none =>
                    refine ⟨ai, by rw [g2, hLi]; rfl, ai0, hci, hd0, .inl ⟨fun f hf e => ?_, ?_, href⟩⟩
                    · obtain ⟨j, i', rs, c, _, _, rfl, ⟨ai', b', hx⟩⟩ := hfs f hf
                      simp only at e; subst e
                      rw [hLi] at hx; simp at hx
                    · simp only [okF1, Bool.or_eq_true, List.all_eq_true] at hf1
                      rcases hf1 with h | h
                      · refine .inl ⟨h, fun hcb f hf => ?_⟩
                        obtain ⟨j, i', rs, c, _, _, rfl, _⟩ := hfs f hf
                        have := hcall _ (List.mem_of_getElem? hLi) hcb
                        simp only; omega
                      · refine .inr fun f hf => ?_
                        obtain ⟨j, i', rs, c, hcf, _, rfl, _⟩ := hfs f hf
                        simpa using h (i', rs) (List.mem_of_getElem? hcf)
                  | some j =>
                    simp only [okF1, Bool.and_eq_true, beq_iff_eq, List.all_eq_true, List.mem_range, Bool.or_eq_true, Bool.not_eq_true', beq_eq_false_iff_ne, decide_eq_true_eq] at hf1
                    obtain ⟨⟨⟨⟨hg, hF⟩, hdst⟩, htmp⟩, hcj⟩ := hf1
                    obtain rfl := hisF hF
                    split at hcj
                    · rename_i c1 hc1
                      obtain ⟨i1, rs⟩ := c1
                      simp only [Bool.and_eq_true, beq_iff_eq, List.all_eq_true, List.mem_range, Bool.or_eq_true] at hcj
                      obtain ⟨rfl, hrk⟩ := hcj
                      obtain ⟨c, hcs', hck1, hsl⟩ := hcsf j i1 rs hc1
                      refine ⟨⟨ai0.dst, none, .mv (.const (.one (fval (n0 + j) ai0.op)))⟩, by rw [g2, hLi]; rfl, ai0, hci, rfl, .inr ⟨n0 + j, c, ?_, rfl, rfl, hg, fun Ed hEd M => ?_, fun t ht x hx e => ?_, fun k hk => ?_⟩⟩
                      · refine List.mem_map.2 ⟨j, List.mem_range.2 (List.getElem?_eq_some_iff.1 hc1).1, ?_⟩
                        simp [List.getD, hc1, hcs']
                      · refine F_op hF ?_ M
                        rw [hLi] at hck1
                        simp only [ckF1] at hck1
                        rw [evOp_congr hEd]
                        unfold rcIs at hck1
                        split at hck1
                        · rename_i d hd; rw [hd]; simp at hck1; rw [hck1]
                        · cases hck1
                      · have e' : dstAt ais x = some t := by
                          rw [← e]
                          unfold dstAt
                          rw [g2, ← hL, List.getElem?_map]
                          cases hx2 : L[x]? with
                          | none => rfl
                          | some y => obtain ⟨y1, y2, y3⟩ := y; cases y3 <;> rfl
                        rcases htmp t ht x hx with h | h
                        · exact absurd e' h
                        · exact ⟨h.1, by simpa using h.2⟩
                      · rcases hrk k (by omega) with h | h
                        · exact .inl h
                        · exact .inr (hsl _ (by simpa using h))
                    · cases hcj
                · obtain ⟨j, i', rs, c, _, _, rfl, ⟨ai', b', hx⟩⟩ := hfs f hf
                  have := (List.getElem?_eq_some_iff.1 hx).1
                  simp only; omega
                · obtain ⟨j, i', rs, c, h1, h2, rfl, ⟨ai', b', hx⟩⟩ := hfs f hf
                  obtain ⟨j2, i2, rs2, c2, h3, h4, rfl, ⟨ai2, b2, hx2⟩⟩ := hfs g hg
                  have ej : j = j2 := by
                    rcases hfg with e | e
                    · simp only at e; subst e
                      rw [hx] at hx2; simp at hx2; exact hx2.2.2
                    · simp only at e; omega
                  subst ej
                  rw [h1] at h3; rw [h2] at h4
                  simp at h3 h4
                  rw [h3.1, h4]
                · have : (L.map (repl1 n0))[i]? = some (ai, ld.getD i false) := by
                    rw [List.getElem?_map] at hai
                    obtain ⟨p, hp, rfl⟩ := Option.map_eq_some_iff.1 hai
                    rw [hp]
                    have h2 : ld[i]? = some p.2 := by rw [← hmap, List.getElem?_map, hp]; rfl
                    simp [List.getD, h2]
                  exact e5 i _ this
                · have := e6 k hk
                  simp at this
                  simp [List.getD, this]
                · have := ckAll_mem hck c hc
                  rw [List.getElem?_map] at hai
                  obtain ⟨p, hp, rfl⟩ := Option.map_eq_some_iff.1 hai
                  rw [hp] at this
                  obtain ⟨⟨dst, g, op⟩, bb⟩ := p
                  cases dst with
                  | none => cases this
                  | some d => exact ⟨d, rfl, fun r hr => ckKs_mem this r hr⟩
                · exact Nat.le_trans (List.length_filter_le _ _) (by simp)
                · have hno : ∀ j, ¬ doneD (Array.replicate ops.size false) j := by
                    intro j h
                    unfold doneD at h
                    rw [Array.getD_eq_getD_getElem?, Array.getElem?_replicate] at h
                    split at h <;> simp at h
                  have hpend : ∀ s, s ∈ pend ((List.range cf.length).map (fun j => ((cf.getD j (0, [])).1, n0 + j, cs.getD j (.r (.ints .u8 []))))) (Array.replicate ops.size false) ↔ n0 ≤ s ∧ s < n0 + cs.length := by
                    intro s
                    rw [mem_pend]
                    constructor
                    · rintro ⟨f, hf, rfl, _⟩
                      obtain ⟨j, i', rs, c, h1, h2, rfl, _⟩ := hfs f hf
                      have := (List.getElem?_eq_some_iff.1 h2).1
                      simp only; omega
                    · rintro ⟨h1, h2⟩
                      exact ⟨_, List.mem_map.2 ⟨s - n0, List.mem_range.2 (by omega), rfl⟩, by simp only; omega, hno _⟩
                  have hmask : killAll (st.hp ++ rowsOf cs) (pend ((List.range cf.length).map (fun j => ((cf.getD j (0, [])).1, n0 + j, cs.getD j (.r (.ints .u8 []))))) (Array.replicate ops.size false)) = st.hp ++ List.replicate cs.length .dead := by
                    apply List.ext_getElem?
                    intro x
                    rw [killAll_at]
                    rw [List.length_append, rowsOf_length]
                    by_cases hx : x < n0
                    · have : ¬ x ∈ pend ((List.range cf.length).map (fun j => ((cf.getD j (0, [])).1, n0 + j, cs.getD j (.r (.ints .u8 []))))) (Array.replicate ops.size false) := fun h => by have := (hpend x).1 h; omega
                      rw [if_neg (fun h => this h.1), List.getElem?_append_left (by omega), List.getElem?_append_left (by omega)]
                    · by_cases hx2 : x < n0 + cs.length
                      · rw [if_pos ⟨(hpend x).2 ⟨by omega, hx2⟩, by omega⟩, List.getElem?_append_right (by omega), List.getElem?_replicate, if_pos (by omega)]
                      · rw [if_neg (fun h => by omega), List.getElem?_eq_none (by rw [List.length_append, rowsOf_length]; omega), List.getElem?_eq_none (by simp; omega)]
                  have hst0 := hst.deads cs.length
                  refine ⟨by simp, Nat.zero_le _, fun i o ho hd => absurd hd (hno i), fun j hj e => ⟨fun h => absurd h (hno j), fun h => by omega⟩, fun j d hd => absurd hd (hno j), fun t _ => by rw [e1], ?_, fun s hs => ?_, fun f hf => ?_⟩
                  · rw [e2, hmask]
                    exact ⟨hst0.env, hst0.heap.drew, hst0.fr.drew, hst0.size, hst0.defers⟩
                  · have := (hpend s).1 hs
                    unfold Poison
                    simp only
                    rw [if_neg (by omega)]
                  · obtain ⟨j, i', rs, c, h1, h2, rfl, _⟩ := hfs f hf
                    have := (List.getElem?_eq_some_iff.1 h2).1
                    rw [e2, List.length_append, rowsOf_length]
                    simp only; omega
              · simp at hs1
            · simp at hev0
  · simp at hc
theorem markF_fst : ∀ (ais : List AI) (fl : List Bool) (j : Nat), fl.length = ais.length → (markF j ais fl).map (·.1) = ais
  | [], fl, j, h => by cases fl <;> simp [markF]
  | a :: ais, [], j, h => by simp at h
  | a :: ais, true :: fl, j, h => by simp only [markF, List.map_cons]; rw [markF_fst ais fl (j + 1) (by simpa using h)]
  | a :: ais, false :: fl, j, h => by simp only [markF, List.map_cons]; rw [markF_fst ais fl j (by simpa using h)]
theorem drawF_ok {K : Nat} {id : Nat} {ops : Array Oper} {ais : List AI} {ac : AC} {st st' : St} {ex : Ex} {ρ : Nat → RV} {a : Act} {w : World} (hΓ : ∀ f, Sound C.P f (Γ f)) (hm : C.P.follows .mixedOrders = true)
    (hi : ∀ (i : Nat) (o : Oper), ops[i]? = some o → ∃ ai, ais[i]? = some ai ∧ ∃ ai0, cInstr C.P n ops o = some ai0 ∧ ai0.dst = ai.dst ∧ (∀ (env : Env) (hp hp1 : List Ob) (v : AV), stepI Γ env hp ai = some (v, hp1) → stepI Γ env hp ai0 = some (v, hp1)) ∧ (isF ai.op = true → ai0 = ai)) (hc : drawF ops.toList ais = some ac)
    (hst : StR C ρ n st.env st.hp a w) (h : evC Γ K ac st = some (ex, st')) : (Code.region id ops true).wp C.P (QR C n ex st') a w := by
  unfold drawF drawF1 at hc
  exact drawG_ok hΓ hm (markF_fst _ _ _ (by simp)) hi hc hst h
theorem drawB_ok {K : Nat} {id : Nat} {ops : Array Oper} {ais : List AI} {st st' : St} {ex : Ex} {ρ : Nat → RV} {a : Act} {w : World} (hΓ : ∀ f, Sound C.P f (Γ f)) (hm : C.P.follows .mixedOrders = true) (hi : cInstrs C.P n ops ops.toList = some ais)
    (hb : ¬ ∃ r, evC Γ K badC st = some r) (hst : StR C ρ n st.env st.hp a w) (h : evC Γ K (drawB ops.toList ais) st = some (ex, st')) : (Code.region id ops true).wp C.P (QR C n ex st') a w := by
  have hget : ∀ (i : Nat) (o : Oper), ops[i]? = some o → ∃ ai, ais[i]? = some ai ∧ cInstr C.P n ops o = some ai := fun i o ho => (instrs_get hi).2 i o (by simpa using ho)
  unfold drawB at h
  split at h
  · rename_i ac hc; exact drawE_ok hΓ hm hi hc hst h
  · split at h
    · rename_i ac hc
      refine drawF_ok hΓ hm (fun i o ho => ?_) hc hst h
      obtain ⟨ai, h1, h2⟩ := hget i o ho
      exact ⟨ai, h1, ai, h2, rfl, fun _ _ _ _ h => h, fun _ => rfl⟩
    · split at h
      · rename_i ac hc
        refine drawF_ok hΓ hm (fun i o ho => ?_) hc hst h
        obtain ⟨ai, h1, h2⟩ := hget i o ho
        refine ⟨toP ai, by rw [List.getElem?_map, h1]; rfl, ai, h2, (toP_dst ai).symm, fun _ _ _ _ h => toP_step h, fun h => ?_⟩
        obtain ⟨d, g, op⟩ := ai
        cases op <;> first | rfl | (simp [toP, isF] at h)
      · exact absurd ⟨_, h⟩ hb
end
section
variable {C : Cx} {ρ ρ' : Nat → RV} {hp hp1 : List Ob} {w w' : World} {o : Oper} {a : Act} {env : Env} {Γ : Nat → Callee} {n : Nat}
theorem getT_ren (f : Nat → Option Nat) (t : Nat) : ∀ e : Env, getT t (Env.ren f e) = (getT t e).ren f
  | [] => rfl
  | (k, v) :: e => by
    simp only [Env.ren, getT]
    split
    · rfl
    · exact getT_ren f t e
theorem getT_keep (env : Env) (t : Nat) : ∀ l : List Nat, getT t (keep env l) = getT t env ∨ getT t (keep env l) = .one .undef
  | [] => .inr rfl
  | k :: l => by
    simp only [keep, getT]
    split
    · rename_i e; subst e; exact .inl rfl
    · exact getT_keep env t l
theorem StR.tidy {rts : List SV} (h : StR C ρ n env hp a w) : ∃ ρ', StR C ρ' n (tidy env rts hp).env (tidy env rts hp).hp a w := by
  have hf : Fine hp (reachL hp 64 (rts ++ envCells env) []) := reachL_fine hp 64 _ [] (Fine.nil hp)
  unfold Go.X.tidy
  generalize reachL hp 64 (rts ++ envCells env) [] = ks at hf
  refine ⟨rho ρ ks, fun t => ?_, h.heap.pick hf, h.fr, h.size, h.defers⟩
  simp only [tidyKs, pick_length]
  rw [getT_ren]
  exact AVR.ren turn_pos (h.env t)
theorem StR.keep {live : List Nat} (h : StR C ρ n env hp a w) : StR C ρ n (keep env live) hp a w := by
  refine ⟨fun t => ?_, h.heap, h.fr, h.size, h.defers⟩
  rcases getT_keep env t live with e | e
  · rw [e]; exact h.env t
  · rw [e]; exact .one _ _ (.undef _)
theorem StR.head {live : List Nat} {st : St} (h : StR C ρ n st.env st.hp a w) : ∃ ρ', StR C ρ' n (st.head live).env (st.head live).hp a w := h.keep.tidy
theorem bool_of {x : AO} {X : Operand} {t : TypeId} {b : Bool} (hx : cOp C.P t X = some x) (he : EnvR C hp.length ρ env a) (h : getO env x = .one (.bool b)) : a.eval X = .bool b := by
  have h1 := cOp_ok hx he
  rw [h] at h1
  generalize a.eval X = v at h1
  cases h1 with | one _ _ h => cases h; rfl
theorem bad_none {K : Nat} {st : St} {r : Ex × St} : ¬ evC Γ K badC st = some r := by
  intro h
  obtain ⟨env, rts, hp⟩ := st
  simp [badC, evC, evIs, evOp, thenI, normC] at h
theorem code_ok {K : Nat} (hΓ : ∀ f, Sound C.P f (Γ f)) (hm : C.P.follows .mixedOrders = true) : ∀ (c : Code) (l : List Nat) (xs : List (Nat × List Nat)) (r : List Nat) (ac : AC) (st : St) (ex : Ex) (st' : St) (ρ : Nat → RV) (a : Act) (w : World),
    cCode C.P n c l xs r = some ac → evC Γ K ac st = some (ex, st') → StR C ρ n st.env st.hp a w → c.wp C.P (QR C n ex st') a w
  | .skip, l, xs, r, ac, st, ex, st', ρ, a, w, hc, h, hst => by
    simp [cCode] at hc; subst hc
    simp [evC] at h; obtain ⟨rfl, rfl⟩ := h
    exact wp_skip ⟨rfl, ρ, hst⟩
  | .region id ops d, l, xs, r, ac, st, ex, st', ρ, a, w, hc, h, hst => by
    simp only [cCode] at hc
    obtain ⟨ais, hi, hc2⟩ := map_some hc
    clear hc
    split at hc2
    · rename_i hd; subst hd
      subst hc2
      exact drawB_ok hΓ hm hi (fun ⟨_, h⟩ => bad_none h) hst h
    · rename_i hd
      have : d = false := by simpa using hd
      subst this
      subst hc2
      simp only [evC] at h
      unfold normC at h
      split at h
      · simp at h
      · rename_i st1 hs
        simp at h; obtain ⟨rfl, rfl⟩ := h
        obtain ⟨env, rts, hp⟩ := st
        refine wp_region ?_
        have := ops_ok (rts := rts) hΓ ops.toList 0 ais ρ env hp a w (by simp) hi hst hs
        simpa [List.range_eq_range'] using this
  | .seq x y, l, xs, r, ac, st, ex, st', ρ, a, w, hc, h, hst => by
    simp only [cCode] at hc
    obtain ⟨⟨ax, ay⟩, hb, rfl⟩ := map_some hc
    obtain ⟨hx, hy⟩ := both_ok hb
    simp only [evC] at h
    unfold thenC at h
    split at h
    · simp at h
    · rename_i st1 h1
      refine wp_seq (wp_mono (code_ok hΓ hm x _ _ _ _ _ _ _ ρ a w hx h1 hst) fun e a1 w1 q => ?_)
      cases e <;> simp only [QR] at q <;> try exact q.elim
      · obtain ⟨_, ρ1, hst1⟩ := q
        exact code_ok hΓ hm y _ _ _ _ _ _ _ ρ1 a1 w1 hy h hst1
      · exact absurd q.1 (by simp)
      · exact absurd q.1 (by simp)
    · rename_i i st1 h1
      simp at h; obtain ⟨rfl, rfl⟩ := h
      refine wp_seq (wp_mono (code_ok hΓ hm x _ _ _ _ _ _ _ ρ a w hx h1 hst) fun e a1 w1 q => ?_)
      cases e <;> simp only [QR] at q <;> try exact q.elim
      · exact absurd q.1 (by simp)
      · first | exact ⟨rfl, q.2⟩ | exact ⟨q.1, q.2⟩
      · exact absurd q.1 (by simp)
    · rename_i st1 h1
      simp at h; obtain ⟨rfl, rfl⟩ := h
      refine wp_seq (wp_mono (code_ok hΓ hm x _ _ _ _ _ _ _ ρ a w hx h1 hst) fun e a1 w1 q => ?_)
      cases e <;> simp only [QR] at q <;> try exact q.elim
      · exact absurd q.1 (by simp)
      · exact absurd q.1 (by simp)
      · first | exact ⟨rfl, q.2⟩ | exact ⟨q.1, q.2⟩
  | .cond c x y, l, xs, r, ac, st, ex, st', ρ, a, w, hc, h, hst => by
    simp only [cCode] at hc
    obtain ⟨co, hco, hc⟩ := bind_some hc
    obtain ⟨⟨ax, ay⟩, hb, rfl⟩ := map_some hc
    obtain ⟨hx, hy⟩ := both_ok hb
    simp only [evC] at h
    unfold branchC at h
    split at h
    · rename_i t ht
      refine wp_cond (bool_of hco hst.env ht) ?_
      cases t
      · simp only [Bool.false_eq_true, if_false] at h ⊢
        exact code_ok hΓ hm y _ _ _ _ _ _ _ ρ a w hy h hst
      · simp only [if_true] at h ⊢
        exact code_ok hΓ hm x _ _ _ _ _ _ _ ρ a w hx h hst
    · simp at h
  | .block id x, l, xs, r, ac, st, ex, st', ρ, a, w, hc, h, hst => by
    simp only [cCode] at hc
    obtain ⟨ax, hx, rfl⟩ := map_some hc
    simp only [evC] at h
    unfold blockC at h
    split at h
    · simp at h
    · rename_i st1 h1
      simp at h; obtain ⟨rfl, rfl⟩ := h
      refine wp_block (wp_mono (code_ok hΓ hm x _ _ _ _ _ _ _ ρ a w hx h1 hst) fun e a1 w1 q => ?_)
      cases e <;> simp only [QR] at q <;> try exact q.elim
      · first | exact ⟨rfl, q.2⟩ | exact ⟨q.1, q.2⟩
      · exact absurd q.1 (by simp)
      · exact absurd q.1 (by simp)
    · rename_i i st1 h1
      refine wp_block (wp_mono (code_ok hΓ hm x _ _ _ _ _ _ _ ρ a w hx h1 hst) fun e a1 w1 q => ?_)
      cases e <;> simp only [QR] at q <;> try exact q.elim
      · exact absurd q.1 (by simp)
      · rename_i i'
        obtain ⟨e, ρ1, q⟩ := q
        simp at e; subst e
        simp only [Exit.inBlock]
        split at h
        · rename_i hid; simp at h; obtain ⟨rfl, rfl⟩ := h
          rw [if_pos hid.symm]; exact ⟨rfl, ρ1, q⟩
        · rename_i hid; simp at h; obtain ⟨rfl, rfl⟩ := h
          rw [if_neg (Ne.symm hid)]; exact ⟨rfl, ρ1, q⟩
      · exact absurd q.1 (by simp)
    · rename_i st1 h1
      simp at h; obtain ⟨rfl, rfl⟩ := h
      refine wp_block (wp_mono (code_ok hΓ hm x _ _ _ _ _ _ _ ρ a w hx h1 hst) fun e a1 w1 q => ?_)
      cases e <;> simp only [QR] at q <;> try exact q.elim
      · exact absurd q.1 (by simp)
      · exact absurd q.1 (by simp)
      · first | exact ⟨rfl, q.2⟩ | exact ⟨q.1, q.2⟩
  | .loop x, l, xs, r, ac, st, ex, st', ρ, a, w, hc, h, hst => by
    simp only [cCode] at hc
    obtain ⟨ax, hx, rfl⟩ := map_some hc
    simp only [evC] at h
    generalize sortN (liveC (.loop x) [] xs r) = live at h
    refine wp_loop_ghost (fun k a w => ∃ ρ st, StR C ρ n st.env st.hp a w ∧ loopN (evC Γ K ax) live k st = some (ex, st')) K ⟨ρ, st, hst, h⟩ ?_
    rintro k a1 w1 ⟨ρ1, st1, hst1, h1⟩
    cases k with
    | zero => simp [loopN] at h1
    | succ k =>
      simp only [loopN] at h1
      obtain ⟨ρ2, hst2⟩ := hst1.head (live := live)
      unfold thenC at h1
      split at h1
      · simp at h1
      · rename_i st2 h2
        refine wp_mono (code_ok hΓ hm x _ _ _ _ _ _ _ ρ2 a1 w1 hx h2 hst2) fun e a3 w3 q => ?_
        cases e <;> simp only [QR] at q <;> try exact q.elim
        · obtain ⟨_, ρ3, q⟩ := q
          exact ⟨k, Nat.lt_succ_self _, ρ3, st2, q, h1⟩
        · exact absurd q.1 (by simp)
        · exact absurd q.1 (by simp)
      · rename_i i st2 h2
        simp at h1; obtain ⟨rfl, rfl⟩ := h1
        refine wp_mono (code_ok hΓ hm x _ _ _ _ _ _ _ ρ2 a1 w1 hx h2 hst2) fun e a3 w3 q => ?_
        cases e <;> simp only [QR] at q <;> try exact q.elim
        · exact absurd q.1 (by simp)
        · first | exact ⟨rfl, q.2⟩ | exact ⟨q.1, q.2⟩
        · exact absurd q.1 (by simp)
      · rename_i st2 h2
        simp at h1; obtain ⟨rfl, rfl⟩ := h1
        refine wp_mono (code_ok hΓ hm x _ _ _ _ _ _ _ ρ2 a1 w1 hx h2 hst2) fun e a3 w3 q => ?_
        cases e <;> simp only [QR] at q <;> try exact q.elim
        · exact absurd q.1 (by simp)
        · exact absurd q.1 (by simp)
        · first | exact ⟨rfl, q.2⟩ | exact ⟨q.1, q.2⟩
  | .exit id, l, xs, r, ac, st, ex, st', ρ, a, w, hc, h, hst => by
    simp [cCode] at hc; subst hc
    simp [evC] at h; obtain ⟨rfl, rfl⟩ := h
    exact wp_exit ⟨rfl, ρ, hst⟩
  | .scope x, l, xs, r, ac, st, ex, st', ρ, a, w, hc, h, hst => by
    simp only [cCode] at hc
    obtain ⟨ax, hx, rfl⟩ := map_some hc
    simp only [evC] at h
    refine wp_scope_straight (wp_mono (code_ok hΓ hm x _ _ _ _ _ _ _ ρ a w hx h hst) fun e a1 w1 q => ?_)
    cases e <;> simp only [QR] at q <;> first | exact ⟨q.1, q.2⟩ | exact q.elim
  | .ret, l, xs, r, ac, st, ex, st', ρ, a, w, hc, h, hst => by
    simp [cCode] at hc; subst hc
    simp [evC] at h; obtain ⟨rfl, rfl⟩ := h
    exact wp_ret ⟨rfl, ρ, hst⟩
  | .rangeFunc _ _ _ _, _, _, _, _, _, _, _, _, _, _, hc, h, _ => by simp [cCode] at hc; subst hc; exact absurd h bad_none
  | .label _, _, _, _, _, _, _, _, _, _, _, hc, h, _ => by simp [cCode] at hc; subst hc; exact absurd h bad_none
  | .goto _, _, _, _, _, _, _, _, _, _, _, hc, h, _ => by simp [cCode] at hc; subst hc; exact absurd h bad_none
  | .refuse _, _, _, _, _, _, _, _, _, _, _, hc, h, _ => by simp [cCode] at hc; subst hc; exact absurd h bad_none
end
section
variable {C : Cx} {ρ ρ' : Nat → RV} {hp hp1 : List Ob} {w w' : World} {o : Oper} {a : Act} {env : Env} {Γ : Nat → Callee} {n : Nat}
def resS (tmps : Array Value) : ResultVar → Sem Value
  | .tmp t => pure (tmps.getD t undef)
  | .cell a t => do loadVar t (← asAddr (tmps.getD a undef))
theorem res_one {rv : ResultVar} {r : Nat × Option (Option Nat)} {v : AV} (hc : cRes C.P rv = some r) (hst : StR C ρ n env hp a w) (h : resOf env hp r = some v) : ∃ u, (resS a.tmps rv).run C.P w = .ok u w ∧ AVR C hp.length ρ v u := by
  cases rv with
  | tmp t =>
    simp [cRes] at hc; subst hc
    simp [resOf] at h; subst h
    exact ⟨_, rfl, hst.env t⟩
  | cell t ty =>
    simp only [cRes] at hc
    obtain ⟨b, hb, hc⟩ := bind_some hc
    have h1 := hst.env t
    split at hc
    · rename_i hb'; subst hb'
      obtain ⟨m, hm, rfl⟩ := map_some hc
      simp only [resOf] at h
      cases hl : loadN hp m (getT t env).sv with
      | none => simp [hl, aggAV] at h
      | some s =>
        simp [hl, aggAV] at h; subst h
        obtain ⟨_, h2⟩ := h1.sv_of (by intro e; rw [e] at hl; simp [loadN] at hl)
        obtain ⟨ad, vs, e, hlen, hcell, hv⟩ := loadN_ok h2 hst.heap hst.fr hl
        have hr := run_loadCells_list (P := C.P) w ad vs hcell
        rw [hlen] at hr
        refine ⟨.agg vs.toArray, ?_, .agg _ _ hv⟩
        simp only [resS, e]
        simp [asAddr, loadVar, run_isAgg w hb, run_sizeT w hm, hr]
    · rename_i hb'
      have : b = false := by simpa using hb'
      subst this
      simp at hc; subst hc
      simp only [resOf] at h
      cases hl : loadOne hp (getT t env).sv with
      | none => simp [hl, oneAV] at h
      | some s =>
        simp [hl, oneAV] at h; subst h
        obtain ⟨_, h2⟩ := h1.sv_of (by intro e; rw [e] at hl; exact loadOne_undef hl)
        obtain ⟨ad, v, e, hcell, hv⟩ := loadOne_ok h2 hst.heap hst.fr hl
        refine ⟨v, ?_, .one _ _ hv⟩
        simp only [resS, e]
        simp [asAddr, loadVar, run_isAgg w hb, load, Sem.run, hcell]
theorem res_all (hst : StR C ρ n env hp a w) : ∀ {rvs : List ResultVar} {rs : List (Nat × Option (Option Nat))} {l : List AV}, rvs.mapM (cRes C.P) = some rs → resL env hp rs = some l → ∃ us, (rvs.mapM (resS a.tmps)).run C.P w = .ok us w ∧ AVRL C hp.length ρ l us
  | [], rs, l, hc, h => by
    simp at hc; subst hc
    simp [resL] at h; subst h
    exact ⟨[], by simp, .nil⟩
  | rv :: rvs, rs, l, hc, h => by
    simp only [List.mapM_cons, Option.pure_def, Option.bind_eq_bind, Option.bind_eq_some_iff] at hc
    obtain ⟨r, hr, rs', hrs, e⟩ := hc
    simp at e; subst e
    simp only [resL, Option.bind_eq_some_iff, Option.map_eq_some_iff] at h
    obtain ⟨v, hv, l', hl, rfl⟩ := h
    obtain ⟨u, h1, h2⟩ := res_one hr hst hv
    obtain ⟨us, h3, h4⟩ := res_all hst hrs hl
    refine ⟨u :: us, ?_, .cons _ _ _ _ h2 h4⟩
    simp [List.mapM_cons, h1, h3]
theorem results_eq (fn : Func) (tmps : Array Value) : results fn tmps = (do let vs ← fn.results.mapM (resS tmps); pure (if h : vs.size = 1 then vs[0] else .tuple vs)) := by
  unfold results
  congr 1
theorem AVRL.length {l : List AV} {vs : List Value} (h : AVRL C n ρ l vs) : l.length = vs.length := by
  induction l generalizing vs with
  | nil => cases h; rfl
  | cons s l ih => cases h with | cons _ v _ vs h hl => simp [ih hl]
theorem tup_ok {l : List AV} {us : List Value} (h : AVRL C n ρ l us) : AVR C n ρ (tupOf l) (if h : us.toArray.size = 1 then us.toArray[0] else .tuple us.toArray) := by
  cases h with
  | nil => exact .tup _ _ .nil
  | cons s v l vs h hl =>
    cases hl with
    | nil => simpa [tupOf] using h
    | cons s' v' l vs h' hl => simp only [tupOf]; exact .tup _ _ (.cons _ _ _ _ h (.cons _ _ _ _ h' hl))
theorem argEnv_get : ∀ (l : List AV) (k t : Nat), getT t (argEnv k l) = (if t < k then .one .undef else l.getD (t - k) (.one .undef))
  | [], k, t => by simp [argEnv, getT]
  | v :: l, k, t => by
    simp only [argEnv, getT]
    split
    · rename_i e; subst e; simp
    · rename_i e
      rw [argEnv_get l (k + 1) t]
      by_cases h : t < k
      · rw [if_pos h, if_pos (by omega)]
      · rw [if_neg h, if_neg (by omega)]
        obtain ⟨m, rfl⟩ : ∃ m, t = k + (m + 1) := ⟨t - k - 1, by omega⟩
        rw [show k + (m + 1) - (k + 1) = m by omega, show k + (m + 1) - k = m + 1 by omega]
        simp
theorem fn_ok {P : Program} {f : Nat} {af : AF} {K : Nat} (hΓ : ∀ f, Sound P f (Γ f)) (hm : P.follows .mixedOrders = true) (hc : cFunc P f = some af) : Sound P f (evF Γ K af) := by
  intro args hp r hp' h
  unfold cFunc at hc
  obtain ⟨fn, hf, hc⟩ := bind_some hc
  obtain ⟨c, hb, hc⟩ := bind_some hc
  split at hc
  · rename_i hcond
    obtain ⟨hle, hbody⟩ := hcond
    obtain ⟨rs, hrs, hc⟩ := bind_some hc
    obtain ⟨ac, hac, rfl⟩ := map_some hc
    refine ⟨hbody, fun C ρ w rargs hP hw hD hargs hH => ?_⟩
    subst hP
    refine calls_of_wp hf hb ?_
    have hst : StR C ρ fn.ntmps (argEnv 0 args) hp { tmps := rargs.toArray ++ Array.replicate (fn.ntmps - rargs.toArray.size) undef, defers := [] } w := by
      refine ⟨fun t => ?_, hH, FR.start hw, by simp; omega, hD.symm⟩
      rw [argEnv_get]
      simp only [Nat.not_lt_zero, if_false, Nat.sub_zero]
      by_cases ht : t < args.length
      · obtain ⟨v, hv1, hv2⟩ := hargs.get (List.getElem?_eq_getElem ht)
        have hlt : t < rargs.length := (List.getElem?_eq_some_iff.1 hv1).1
        rw [Array.getD_eq_getD_getElem?, Array.getElem?_append_left (by simpa using hlt)]
        rw [List.getElem?_toArray, hv1]
        simp only [List.getD, List.getElem?_eq_getElem ht, Option.getD_some]
        exact hv2
      · rw [List.getD, List.getElem?_eq_none (by omega)]
        exact .one _ _ (.undef _)
    have hev : ∃ ex st, evC Γ K ac ⟨argEnv 0 args, avsCells args, hp⟩ = some (ex, st) ∧ give st.rts st.hp (resL st.env st.hp rs) = some (r, hp') ∧ (ex = .norm ∨ ex = .ret) := by
      simp only [evF] at h
      unfold resC at h
      split at h
      · rename_i st e; exact ⟨_, st, e, h, .inl rfl⟩
      · rename_i st e; exact ⟨_, st, e, h, .inr rfl⟩
      · simp at h
    obtain ⟨ex, st, hev, hg, hex⟩ := hev
    have fin : ∀ (a1 : Act) (w1 : World), (∃ ρ, StR C ρ fn.ntmps st.env st.hp a1 w1) → a1.defers = [] ∧ ∃ v, (results fn a1.tmps).run C.P w1 = .ok v w1 ∧ ∃ ρ' rv, Ending.returned v = .returned rv ∧ AVR C hp'.length ρ' r rv ∧ HR C ρ' hp' w1 ∧ FR C w1 := by
      rintro a1 w1 ⟨ρ1, hs1⟩
      refine ⟨hs1.defers.trans hD, ?_⟩
      unfold give at hg
      split at hg
      · simp at hg
      · rename_i l hl
        obtain ⟨us, h1, h2⟩ := res_all hs1 hrs hl
        have hf : Fine st.hp (reachL st.hp 64 (st.rts ++ avCells (tupOf l)) []) := reachL_fine st.hp 64 _ [] (Fine.nil st.hp)
        generalize reachL st.hp 64 (st.rts ++ avCells (tupOf l)) [] = ks at hg hf
        simp only [giveKs, Option.some.injEq, Prod.mk.injEq] at hg
        obtain ⟨rfl, rfl⟩ := hg
        refine ⟨(if h : us.toArray.size = 1 then us.toArray[0] else .tuple us.toArray), ?_, rho ρ1 ks, _, rfl, ?_, hs1.heap.pick hf, hs1.fr⟩
        · rw [results_eq, Array.mapM_eq_mapM_toList]
          simp [h1]
        · rw [pick_length]; exact AVR.ren turn_pos (tup_ok h2)
    refine wp_mono (code_ok hΓ hm c _ _ _ ac _ ex st ρ _ w hac hev hst) fun e a1 w1 q => ?_
    cases e <;> simp only [QR] at q <;> try exact q.elim
    · exact fin a1 w1 q.2
    · rcases hex with rfl | rfl <;> exact absurd q.1 (by simp)
    · exact fin a1 w1 q.2
  · simp at hc
end
open Go.RowKit Go.ChangeShapes Go.ChangeAt Go.WideShapes
def none0 : Nat → Callee := fun _ _ _ => none
def upd (Γ : Nat → Callee) (n : Nat) (F : Callee) : Nat → Callee := fun f => if f = n then F else Γ f
theorem none0_ok (P : Program) : ∀ f, Sound P f (none0 f) := fun f args hp r hp' h => by simp [none0] at h
theorem upd_ok {P : Program} {Γ : Nat → Callee} {n : Nat} {F : Callee} (h : ∀ f, Sound P f (Γ f)) (hF : Sound P n F) : ∀ f, Sound P f (upd Γ n F f) := fun f => by
  unfold upd
  split
  · rename_i e; subst e; exact hF
  · exact h f
@[irreducible] def KK : Nat := 100000
theorem KK_eq : KK = 100000 := by unfold KK; rfl
def cx0 (P : Program) (w : World) (τ : Nat → Nat) : Cx := ⟨P, w, fun _ => False, τ, fun _ => ⟨.nilFunc, 0⟩, []⟩
def rho0 : Nat → RV := fun _ => ⟨.nilFunc, 0⟩
theorem law_of {P : Program} {f : Nat} {F : Callee} {args : List AV} {rargs : List Value} {w : World} {hp' : List Ob} (τ : Nat → Nat) (hS : Sound P f F) (h : F args [] = some (.one (.bool true), hp')) (hv : AVRL (cx0 P w τ) 0 rho0 args rargs) :
    Calls P f rargs.toArray w fun e w' => e = .returned (.bool true) ∧ Below w.heap.size w w' := by
  refine Calls.mono ((hS args [] _ _ h).2 (cx0 P w τ) rho0 w rargs rfl rfl rfl hv ⟨fun k o h => by simp at h, fun j k b _ hj => ?_⟩) ?_
  · obtain ⟨o, ho, _⟩ := hj; simp at ho
  · rintro e w' ⟨ρ', rv, rfl, h1, _, h3⟩
    cases h1 with
    | one _ _ h1 =>
      cases h1
      exact ⟨rfl, h3.os, h3.tape, h3.output, h3.size, fun k hk => h3.block k hk (fun h => h)⟩
section
variable {H : Type} {enc : TypeId × Value → H} {P : Program}
theorem trodAll_below (hl : laidOutB P = true) {W W' : World} (hb : Below W.heap.size W W') : ∀ {ts : List TypeId} {vs : List Value} {ds : List (DataW H)} {ps : List MemPlace}, (ts.all fun t => P.readableRec t && decide (t < P.types.size)) = true →
    DataW.TrodAll enc P W 0 (fun _ => true) true ts vs ds ps → (∀ x ∈ ps, x.block < W.heap.size) → DataW.TrodAll enc P W' 0 (fun b => decide (b < W.heap.size)) true ts vs ds ps
  | [], vs, ds, ps, _, h, _ => by
    obtain ⟨rfl, rfl, rfl⟩ := trodAll_nil h
    exact trodAll_mk0
  | t :: ts, vs, ds, ps, hr, h, hlt => by
    simp only [List.all_cons, Bool.and_eq_true, decide_eq_true_eq] at hr
    obtain ⟨v, vs', d, ds', p, q, rfl, rfl, rfl, h0, r0⟩ := trodAll_cons h
    exact trodAll_cons_mk (Below.trod hl hr.1.1 hr.1.2 h0 hb fun x hx => hlt x (by simp [hx])) (trodAll_below hl hb (by simpa using hr.2) r0 fun x hx => hlt x (by simp [hx]))
theorem post_below {f : Func} {s : ChangeSpec} {apart fresh handsOn : Bool} {W W' : World} {args : Array Value} {v : Value} {ds gs : List (DataW H)} {before : List MemPlace} (hl : laidOutB P = true)
    (hr : (f.params.toList.all fun t => P.readableRec t && decide (t < P.types.size)) = true) (hW : DataW.Whole enc P f.params.toList s.vars apart W args.toList ds gs before) (hb : Below W.heap.size W W')
    (hres : ∀ (b : Nat) (sp : Nat → Bool) (hd : Bool), DataW.TrodAll enc P W' b sp hd f.resultTypes.toList (v.resultList f.resultTypes.size) (s.fn H (ds ++ gs)).results [])
    (hargs : (s.fn H (ds ++ gs)).args = ds) (hA : DataW.TrodAll enc P W 0 (fun _ => true) true f.params.toList args.toList ds before) (hvars : ∀ sp : Nat → Bool, DataW.TrodVars enc P W' sp s.vars (s.fn H (ds ++ gs)).vars []) :
    s.post enc P f apart fresh handsOn false W args v W' := by
  have hlt : ∀ x ∈ before, x.block < W.heap.size := fun x hx => by simpa using hW.lt x hx
  refine ⟨ds, gs, before, [], before, [], hW, hres _ _ _, ?_, hvars _, hb.frame _, fun h => by cases h⟩
  rw [hargs]
  exact trodAll_below hl hb hr hA hlt
end
abbrev RF (l : Nat) : Fence := Fence.wide.inRound l
theorem wide_depth {l : Nat} {p : Prop} (h : (RF l).depth.isSome = true) : p := by simp [RF, Fence.wide] at h
theorem oper_in {P : Program} {o : Oper} {a : Act} {w : World} {K K' : Act → World → Prop} {Q : Exit → Act → World → Prop} (q m : Nat) (hd : ∀ c, o.op ≠ .defer c) (hK : ∀ a w, K a w → K' a w) (h : o.wp P a w K Q) : o.wpIn (RF q) m P a w K' Q := by
  refine ⟨fun _ _ => trivial, ?_⟩
  have e : o.semAt (RF q).round a.eval = execOp a.eval o := Oper.semAt_some q a.eval o hd
  rw [e]
  unfold Oper.wp at h
  generalize (execOp a.eval o).run P w = r at h
  cases r with
  | ok v w' =>
    cases v with
    | value v => exact hK _ _ h
    | skip => exact hK _ _ h
    | defer d => exact hK _ _ h
    | enter f args =>
      refine ⟨fun h => wide_depth h, CallsIn.inRound q (callsIn_wide.2 (Calls.mono h ?_))⟩
      intro e w'' h
      cases e with
      | returned v => exact hK _ _ h
      | panicked c => exact h
      | outgrown => exact h
    | row row args =>
      refine ⟨fun h => wide_depth h, fun c cs hroom => ?_⟩
      obtain ⟨v, w'', h1, h2⟩ := h c cs
      exact ⟨v, w'', hK _ _ h1, stepsIn_wide.2 h2⟩
    | _ => exact h.elim
  | halt x w' => cases x <;> exact h
theorem ops_in {P : Program} {ops : Array Oper} {Q : Exit → Act → World → Prop} (q m : Nat) (hd : ∀ (i : Nat) (o : Oper), ops[i]? = some o → ∀ c, o.op ≠ .defer c) (hQ : ¬ LetsOut Q) : ∀ (L : List Nat) (a : Act) (w : World), wpOps P ops Q L a w → wpOpsIn (RF q) m P ops Q L a w
  | [], a, w, h => h
  | i :: rest, a, w, h => by
    simp only [wpOps, wpOpsIn] at h ⊢
    cases ho : ops[i]? with
    | none => simp only [ho] at h ⊢; exact ops_in q m hd hQ rest a w h
    | some o =>
      simp only [ho] at h ⊢
      split at h
      · rename_i hw
        rw [if_pos hw]
        rcases h with h | h
        · exact oper_in q m (hd i o ho) (fun a w h => ops_in q m hd hQ rest a w h) h
        · exact absurd h.2 hQ
      · rename_i hw
        rw [if_neg hw]
        exact ⟨fun _ _ => trivial, ops_in q m hd hQ rest _ w h⟩
def noDef (o : Oper) : Bool := match o.op with
  | .defer _ => false
  | _ => true
theorem noDef_ok {o : Oper} (h : noDef o = true) : ∀ c, o.op ≠ .defer c := by
  intro c e
  simp [noDef, e] at h
def rok : Code → Bool
  | .skip => true
  | .region _ ops d => !d && ops.toList.all noDef
  | .seq a b => rok a && rok b
  | .cond _ a b => rok a && rok b
  | .block _ a => rok a
  | .exit _ => true
  | .ret => true
  | _ => false
section
variable {C : Cx} {ρ ρ' : Nat → RV} {hp hp1 : List Ob} {w w' : World} {o : Oper} {a : Act} {env : Env} {Γ : Nat → Callee} {n : Nat}
theorem QR_lets {ex : Ex} {st : St} : ¬ LetsOut (QR C n ex st) := fun ⟨_, _, h⟩ => h
theorem code_okR {K : Nat} (hΓ : ∀ f, Sound C.P f (Γ f)) (q m : Nat) : ∀ (c : Code) (l : List Nat) (xs : List (Nat × List Nat)) (r : List Nat) (ac : AC) (st : St) (ex : Ex) (st' : St) (ρ : Nat → RV) (a : Act) (w : World), rok c = true →
    cCode C.P n c l xs r = some ac → evC Γ K ac st = some (ex, st') → StR C ρ n st.env st.hp a w → c.wpIn (RF q) m C.P (QR C n ex st') a w
  | .skip, l, xs, r, ac, st, ex, st', ρ, a, w, hr, hc, h, hst => by
    simp [cCode] at hc; subst hc
    simp [evC] at h; obtain ⟨rfl, rfl⟩ := h
    exact wpIn_skip ⟨rfl, ρ, hst⟩
  | .region id ops d, l, xs, r, ac, st, ex, st', ρ, a, w, hr, hc, h, hst => by
    simp only [rok, Bool.and_eq_true, Bool.not_eq_true', List.all_eq_true] at hr
    obtain ⟨rfl, hnd⟩ := hr
    simp only [cCode] at hc
    obtain ⟨ais, hi, hc2⟩ := map_some hc
    simp at hc2
    subst hc2
    simp only [evC] at h
    unfold normC at h
    split at h
    · simp at h
    · rename_i st1 hs
      simp at h; obtain ⟨rfl, rfl⟩ := h
      obtain ⟨env, rts, hp⟩ := st
      refine wpIn_region (ops_in q m (fun i o ho => noDef_ok (hnd o (by rw [← Array.getElem?_toList] at ho; exact List.mem_of_getElem? ho))) QR_lets _ _ _ ?_)
      have := ops_ok (rts := rts) hΓ ops.toList 0 ais ρ env hp a w (by simp) hi hst hs
      simpa [List.range_eq_range'] using this
  | .seq x y, l, xs, r, ac, st, ex, st', ρ, a, w, hr, hc, h, hst => by
    simp only [rok, Bool.and_eq_true] at hr
    simp only [cCode] at hc
    obtain ⟨⟨ax, ay⟩, hb, rfl⟩ := map_some hc
    obtain ⟨hx, hy⟩ := both_ok hb
    simp only [evC] at h
    unfold thenC at h
    split at h
    · simp at h
    · rename_i st1 h1
      refine wpIn_seq (wpIn_mono (code_okR hΓ q m x _ _ _ _ _ _ _ ρ a w hr.1 hx h1 hst) fun e a1 w1 q => ?_)
      cases e <;> simp only [QR] at q <;> try exact q.elim
      · obtain ⟨_, ρ1, hst1⟩ := q
        exact code_okR hΓ q m y _ _ _ _ _ _ _ ρ1 a1 w1 hr.2 hy h hst1
      · exact absurd q.1 (by simp)
      · exact absurd q.1 (by simp)
    · rename_i i st1 h1
      simp at h; obtain ⟨rfl, rfl⟩ := h
      refine wpIn_seq (wpIn_mono (code_okR hΓ q m x _ _ _ _ _ _ _ ρ a w hr.1 hx h1 hst) fun e a1 w1 q => ?_)
      cases e <;> simp only [QR] at q <;> try exact q.elim
      · exact absurd q.1 (by simp)
      · first | exact ⟨rfl, q.2⟩ | exact ⟨q.1, q.2⟩
      · exact absurd q.1 (by simp)
    · rename_i st1 h1
      simp at h; obtain ⟨rfl, rfl⟩ := h
      refine wpIn_seq (wpIn_mono (code_okR hΓ q m x _ _ _ _ _ _ _ ρ a w hr.1 hx h1 hst) fun e a1 w1 q => ?_)
      cases e <;> simp only [QR] at q <;> try exact q.elim
      · exact absurd q.1 (by simp)
      · exact absurd q.1 (by simp)
      · first | exact ⟨rfl, q.2⟩ | exact ⟨q.1, q.2⟩
  | .cond c x y, l, xs, r, ac, st, ex, st', ρ, a, w, hr, hc, h, hst => by
    simp only [rok, Bool.and_eq_true] at hr
    simp only [cCode] at hc
    obtain ⟨co, hco, hc⟩ := bind_some hc
    obtain ⟨⟨ax, ay⟩, hb, rfl⟩ := map_some hc
    obtain ⟨hx, hy⟩ := both_ok hb
    simp only [evC] at h
    unfold branchC at h
    split at h
    · rename_i t ht
      refine wpIn_cond (bool_of hco hst.env ht) ?_
      cases t
      · simp only [Bool.false_eq_true, if_false] at h ⊢
        exact code_okR hΓ q m y _ _ _ _ _ _ _ ρ a w hr.2 hy h hst
      · simp only [if_true] at h ⊢
        exact code_okR hΓ q m x _ _ _ _ _ _ _ ρ a w hr.1 hx h hst
    · simp at h
  | .block id x, l, xs, r, ac, st, ex, st', ρ, a, w, hr, hc, h, hst => by
    simp only [rok] at hr
    simp only [cCode] at hc
    obtain ⟨ax, hx, rfl⟩ := map_some hc
    simp only [evC] at h
    unfold blockC at h
    split at h
    · simp at h
    · rename_i st1 h1
      simp at h; obtain ⟨rfl, rfl⟩ := h
      refine wpIn_block (wpIn_mono (code_okR hΓ q m x _ _ _ _ _ _ _ ρ a w hr hx h1 hst) fun e a1 w1 q => ?_)
      cases e <;> simp only [QR] at q <;> try exact q.elim
      · first | exact ⟨rfl, q.2⟩ | exact ⟨q.1, q.2⟩
      · exact absurd q.1 (by simp)
      · exact absurd q.1 (by simp)
    · rename_i i st1 h1
      refine wpIn_block (wpIn_mono (code_okR hΓ q m x _ _ _ _ _ _ _ ρ a w hr hx h1 hst) fun e a1 w1 q => ?_)
      cases e <;> simp only [QR] at q <;> try exact q.elim
      · exact absurd q.1 (by simp)
      · rename_i i'
        obtain ⟨e, ρ1, q⟩ := q
        simp at e; subst e
        simp only [Exit.inBlock]
        split at h
        · rename_i hid; simp at h; obtain ⟨rfl, rfl⟩ := h
          rw [if_pos hid.symm]; exact ⟨rfl, ρ1, q⟩
        · rename_i hid; simp at h; obtain ⟨rfl, rfl⟩ := h
          rw [if_neg (Ne.symm hid)]; exact ⟨rfl, ρ1, q⟩
      · exact absurd q.1 (by simp)
    · rename_i st1 h1
      simp at h; obtain ⟨rfl, rfl⟩ := h
      refine wpIn_block (wpIn_mono (code_okR hΓ q m x _ _ _ _ _ _ _ ρ a w hr hx h1 hst) fun e a1 w1 q => ?_)
      cases e <;> simp only [QR] at q <;> try exact q.elim
      · exact absurd q.1 (by simp)
      · exact absurd q.1 (by simp)
      · first | exact ⟨rfl, q.2⟩ | exact ⟨q.1, q.2⟩
  | .exit id, l, xs, r, ac, st, ex, st', ρ, a, w, hr, hc, h, hst => by
    simp [cCode] at hc; subst hc
    simp [evC] at h; obtain ⟨rfl, rfl⟩ := h
    exact wpIn_exit ⟨rfl, ρ, hst⟩
  | .ret, l, xs, r, ac, st, ex, st', ρ, a, w, hr, hc, h, hst => by
    simp [cCode] at hc; subst hc
    simp [evC] at h; obtain ⟨rfl, rfl⟩ := h
    exact wpIn_ret ⟨rfl, ρ, hst⟩
  | .loop _, _, _, _, _, _, _, _, _, _, _, hr, _, _, _ => by simp [rok] at hr
  | .scope _, _, _, _, _, _, _, _, _, _, _, hr, _, _, _ => by simp [rok] at hr
  | .rangeFunc _ _ _ _, _, _, _, _, _, _, _, _, _, _, hr, _, _, _ => by simp [rok] at hr
  | .label _, _, _, _, _, _, _, _, _, _, _, hr, _, _, _ => by simp [rok] at hr
  | .goto _, _, _, _, _, _, _, _, _, _, _, hr, _, _, _ => by simp [rok] at hr
  | .refuse _, _, _, _, _, _, _, _, _, _, _, hr, _, _, _ => by simp [rok] at hr
end
@[simp] theorem okCell_nils (c : RC) : okCell (.nils c) = true := rfl
def envOf : List Nat → List AV → Env
  | t :: ts, v :: vs => (t, v) :: envOf ts vs
  | _, _ => []
def resB : Option (Ex × St) → Res
  | some (.norm, st) => give st.rts st.hp (some [.one (.bool true)])
  | some (.ret, st) => give st.rts st.hp (some [.one (.bool false)])
  | _ => none
def evB (Γ : Nat → Callee) (K : Nat) (ac : AC) (ts : List Nat) : Callee := fun args hp => resB (evC Γ K ac ⟨envOf ts args, avsCells args, hp⟩)
def evZ (Γ : Nat → Callee) (K : Nat) (ac : AC) (ts : List Nat) (rs : List (Nat × Option (Option Nat))) : Callee := fun args hp => resC rs (evC Γ K ac ⟨envOf ts args, avsCells args, hp⟩)
def boxR : Option Ob → Option (List Int)
  | some (.cells _ [.ro _ (.ints .u8 xs)]) => some xs
  | some (.cells _ [.nils _]) => some []
  | _ => none
def itemsR (G : Nat) (hp : List Ob) : AV → Option (List Int)
  | .one (.fn g [.ptr k 0]) => if g = G then boxR hp[k]? else none
  | _ => none
def getA (env : Env) : List Nat → List AV
  | [] => []
  | t :: ts => getT t env :: getA env ts
def nextR (f : St → Option (Bool × St)) (env : Env) (rts : List SV) : Res → Option (Bool × St)
  | some (.one (.bool true), hp) => f ⟨env, rts, hp⟩
  | some (.one (.bool false), hp) => some (false, ⟨env, rts, hp⟩)
  | _ => none
def call1 (F : Callee) (hp : List Ob) (args : List AV) : Res := callKs false (fun _ => F) hp 0 args (handKs hp args)
def stepR (F : Callee) (G t : Nat) (xs : List Int) (ts : List Nat) (x : Int) (f : St → Option (Bool × St)) (st : St) : Option (Bool × St) :=
  if itemsR G st.hp (getT t st.env) = some xs then nextR f st.env st.rts (call1 F st.hp (getA st.env ts ++ [.one (.int .u8 x)])) else none
def roundsR (F : Callee) (G t : Nat) (xs : List Int) (live ts : List Nat) : List Int → St → Option (Bool × St)
  | [], st => some (true, st)
  | x :: l, st => stepR F G t xs ts x (roundsR F G t xs live ts l) (st.head live)
section
variable {C : Cx} {ρ ρ' : Nat → RV} {hp hp1 : List Ob} {w w' : World} {o : Oper} {a : Act} {env : Env} {Γ : Nat → Callee} {n : Nat}
theorem envOf_ok : ∀ {ts : List Nat} {args : List AV} {vs : List Value} {m : Nat}, AVRL C m ρ args vs → vs = ts.map (fun t => a.tmps.getD t undef) → EnvR C m ρ (envOf ts args) a
  | [], _, _, m, .nil, _ => fun t => .one _ _ (.undef _)
  | [], _, _, m, .cons _ _ _ _ _ _, e => by simp at e
  | _ :: _, _, _, m, .nil, e => by simp at e
  | t0 :: ts, _, _, m, .cons s v l vs h hl, e => fun t => by
    simp only [List.map_cons, List.cons.injEq] at e
    simp only [envOf, getT]
    split
    · rename_i e2; subst e2; rw [← e.1]; exact h
    · exact envOf_ok hl e.2 t
theorem getA_ok (he : EnvR C hp.length ρ env a) : ∀ ts : List Nat, AVRL C hp.length ρ (getA env ts) (ts.map fun t => a.tmps.getD t undef)
  | [] => .nil
  | t :: ts => .cons _ _ _ _ (he t) (getA_ok he ts)
theorem body_ok {K : Nat} (hΓ : ∀ f, Sound C.P f (Γ f)) {c : Code} {ac : AC} {l' : List Nat} {xs : List (Nat × List Nat)} {r' : List Nat} (hc : cCode C.P n c l' xs r' = some ac) (hr : rok c = true) {ts : List Nat} {args : List AV} {r : AV} {hp' : List Ob} (h : evB Γ K ac ts args hp = some (r, hp'))
    (hF : FR C w) (hH : HR C ρ hp w) (he : EnvR C hp.length ρ (envOf ts args) a) (hn : n ≤ a.tmps.size) (hd : a.defers = C.df) (q m : Nat) :
    c.wpIn (RF q) m C.P (fun e a' w' => ∃ b ρ', r = .one (.bool b) ∧ (e = .normal ∧ b = true ∨ e = .ret ∧ b = false) ∧ HR C ρ' hp' w' ∧ FR C w') a w := by
  have key : ∀ (st : St) (b : Bool) (a1 : Act) (w1 : World), give st.rts st.hp (some [.one (.bool b)]) = some (r, hp') → (∃ ρ, StR C ρ n st.env st.hp a1 w1) → ∃ ρ', r = .one (.bool b) ∧ HR C ρ' hp' w1 ∧ FR C w1 := by
    rintro st b a1 w1 hg ⟨ρ1, hs⟩
    simp only [give, tupOf] at hg
    have hf : Fine st.hp (reachL st.hp 64 (st.rts ++ avCells (.one (.bool b))) []) := reachL_fine st.hp 64 _ [] (Fine.nil st.hp)
    generalize reachL st.hp 64 (st.rts ++ avCells (.one (.bool b))) [] = ks at hg hf
    simp only [giveKs, Option.some.injEq, Prod.mk.injEq] at hg
    obtain ⟨rfl, rfl⟩ := hg
    exact ⟨rho ρ1 ks, rfl, hs.heap.pick hf, hs.fr⟩
  simp only [evB] at h
  unfold resB at h
  split at h
  · rename_i st e
    refine wpIn_mono (code_okR hΓ q m c _ _ _ ac _ _ st ρ a w hr hc e ⟨he, hH, hF, hn, hd⟩) fun e a1 w1 hq => ?_
    cases e <;> simp only [QR] at hq <;> try exact hq.elim
    · obtain ⟨ρ', h1, h2, h3⟩ := key st true a1 w1 h hq.2
      exact ⟨true, ρ', h1, .inl ⟨rfl, rfl⟩, h2, h3⟩
    · exact absurd hq.1 (by simp)
    · exact absurd hq.1 (by simp)
  · rename_i st e
    refine wpIn_mono (code_okR hΓ q m c _ _ _ ac _ _ st ρ a w hr hc e ⟨he, hH, hF, hn, hd⟩) fun e a1 w1 hq => ?_
    cases e <;> simp only [QR] at hq <;> try exact hq.elim
    · exact absurd hq.1 (by simp)
    · exact absurd hq.1 (by simp)
    · obtain ⟨ρ', h1, h2, h3⟩ := key st false a1 w1 h hq.2
      exact ⟨false, ρ', h1, .inr ⟨rfl, rfl⟩, h2, h3⟩
  · simp at h
theorem HR.cellsAt (hH : HR C ρ hp w) {k b : Nat} (ha : alive hp k) (hb : blkOf (ρ k).hdr = some b) : ∃ cur T fr, w.heap[b]? = some (.cells cur T fr) := by
  obtain ⟨ob, ho, hd⟩ := ha
  have h := hH.ob k ob ho
  cases ob with
  | dead => exact absurd rfl hd
  | cells g l =>
    obtain ⟨b', T, cur, e, _, hh, _⟩ := h
    rw [e] at hb; simp [blkOf] at hb; subst hb
    exact ⟨_, _, _, hh⟩
  | rows g c =>
    obtain ⟨_, _, _, h | ⟨b', q, cap, cur, T, fr, e, _, hh, _⟩⟩ := h
    · rw [h.1] at hb; simp [blkOf] at hb
    · rw [e] at hb; simp [blkOf] at hb; subst hb
      exact ⟨_, _, _, hh⟩
theorem StR.putObj (h : StR C ρ n env hp a w) {q : Nat} {o o' : Obj} (hq : w.heap[q]? = some o) (hc : o.isCells = false) (hb : C.w0.heap.size ≤ q) : StR C ρ n env hp a (w.putObj q o') := by
  refine ⟨h.env, h.heap.world fun k b ha hb' => ?_, ?_, h.size, h.defers⟩
  · obtain ⟨cur, T, fr, e⟩ := h.heap.cellsAt ha hb'
    refine World.putObj_heap_other ?_
    rintro rfl
    rw [hq] at e; simp at e; subst e; simp [Obj.isCells] at hc
  · exact ⟨by rw [World.putObj_size]; exact h.fr.size, fun b hb1 hb2 => by rw [World.putObj_heap_other (by omega)]; exact h.fr.block b hb1 hb2, h.fr.os, h.fr.tape, h.fr.output⟩
theorem StR.alloc (h : StR C ρ n env hp a w) (o : Obj) : StR C ρ n env hp a (w.alloc o) := ⟨h.env, h.heap.alloc o, h.fr.alloc o, h.size, h.defers⟩
theorem callee_keeps {ks : List Nat} {cs : List SV} {D : List Deferred} (hH : HR C ρ hp w) (hf : Fine hp ks) (hF' : FR (C.callee ρ ks w cs D) w') {q : Nat} {o : Obj} (hq : w.heap[q]? = some o) (hc : o.isCells = false) : w'.heap[q]? = some o := by
  rw [← hq]
  refine hF'.block q (Array.getElem?_eq_some_iff.1 hq).1 ?_
  rintro ⟨k, hk, e⟩
  obtain ⟨cur, T, fr, e'⟩ := hH.cellsAt (hf.alive k hk) e
  rw [hq] at e'; simp at e'; subst e'; simp [Obj.isCells] at hc
end
section
variable {C C' : Cx} {ρ ρ' : Nat → RV} {hp hp1 : List Ob} {w w' : World} {o : Oper} {a : Act} {env : Env} {Γ : Nat → Callee} {n : Nat}
mutual
theorem VR.conv (hr : ∀ t c a, C.reads t c a → C'.reads t c a) : ∀ {s : SV} {v : Value}, VR C n ρ s v → VR C' n ρ s v
  | _, _, .undef v => .undef v
  | _, _, .int k x => .int k x
  | _, _, .bool b => .bool b
  | _, _, .str t => .str t
  | _, _, .nilp => .nilp
  | _, _, .nilf => .nilf
  | _, _, .nils c h hw => .nils c h hw
  | _, _, .ro t c a cap h hc => .ro t c a cap (hr _ _ _ h) hc
  | _, _, .rptr t c i o b q h hi => .rptr t c i o b q (hr _ _ _ h) hi
  | _, _, .fn g caps cs h => .fn g _ cs (VRL.conv hr h)
  | _, _, .ptr k o b hk h => .ptr k o b hk h
  | _, _, .eptr k i o b q m cap hk h hi => .eptr k i o b q m cap hk h hi
  | _, _, .row k a m cap hk h => .row k a m cap hk h
  | _, _, .viewNil k hk h => .viewNil k hk h
  | _, _, .view k o m b q len cap q' hk h hl hc hq hq' => .view k o m b q len cap q' hk h hl hc hq hq'
  | _, _, .cview k o m b q cap hk h hq hc => .cview k o m b q cap hk h hq hc
theorem VRL.conv (hr : ∀ t c a, C.reads t c a → C'.reads t c a) : ∀ {l : List SV} {vs : List Value}, VRL C n ρ l vs → VRL C' n ρ l vs
  | _, _, .nil => .nil
  | _, _, .cons a v l vs h hl => .cons a v l vs (VR.conv hr h) (VRL.conv hr hl)
end
mutual
theorem AVR.conv (hr : ∀ t c a, C.reads t c a → C'.reads t c a) : ∀ {s : AV} {v : Value}, AVR C n ρ s v → AVR C' n ρ s v
  | _, _, .one a v h => .one a v (VR.conv hr h)
  | _, _, .agg l vs h => .agg l vs (VRL.conv hr h)
  | _, _, .tup l vs h => .tup l vs (AVRL.conv hr h)
theorem AVRL.conv (hr : ∀ t c a, C.reads t c a → C'.reads t c a) : ∀ {l : List AV} {vs : List Value}, AVRL C n ρ l vs → AVRL C' n ρ l vs
  | _, _, .nil => .nil
  | _, _, .cons a v l vs h hl => .cons a v l vs (AVR.conv hr h) (AVRL.conv hr hl)
end
theorem HR.conv (hr : ∀ t c a, C.reads t c a → C'.reads t c a) (ho : ∀ b, C.own b → C'.own b) (h0 : C.r0 = C'.r0) (h : HR C ρ hp w) : HR C' ρ hp w := by
  refine ⟨fun k o hk => ?_, h.ne⟩
  have h1 := h.ob k o hk
  cases o with
  | dead => trivial
  | cells g l =>
    obtain ⟨b, T, cur, e, e1, e2, e3, e4⟩ := h1
    exact ⟨b, T, cur, e, ho _ e1, e2, VRL.conv hr e3, by rw [← h0]; exact e4⟩
  | rows g c =>
    obtain ⟨e1, e2, eg, e3 | ⟨b, q, cap, cur, T, fr, e, e4, rest⟩⟩ := h1
    · exact ⟨e1, e2, by rw [← h0]; exact eg, .inl e3⟩
    · exact ⟨e1, e2, by rw [← h0]; exact eg, .inr ⟨b, q, cap, cur, T, fr, e, ho _ e4, rest⟩⟩
theorem reads_put {ks : List Nat} {cs : List SV} {D : List Deferred} {q : Nat} {ob ob' : Obj} (hq : w.heap[q]? = some ob) (hc : ob.isCells = false) : ∀ t c a, (C.callee ρ ks w cs D).reads t c a → (C.callee ρ ks (w.putObj q ob') cs D).reads t c a := by
  rintro t c a ⟨h1, h2⟩
  refine ⟨h1, fun h => ?_⟩
  obtain ⟨b, of, rfl, e1, e2, e3⟩ := h2 h
  refine ⟨b, of, rfl, ?_, ?_, fun j u hj => ?_⟩
  · intro hh; apply e1
    rcases hh with hh | hh
    · exact .inl hh
    · refine .inr ?_
      show w.heap.size ≤ b
      have : (w.putObj q ob').heap.size ≤ b := hh
      rwa [World.putObj_size] at this
  · have : tagBlk C ρ (w.putObj q ob').heap.size cs[t]? = b := by rw [World.putObj_size]; exact e2
    exact this
  · have h3 : w.cell? ⟨b, of + j, none⟩ = some u := e3 j u hj
    show (w.putObj q ob').cell? ⟨b, of + j, none⟩ = some u
    rw [World.cell?_of_block (w := w) (a := ⟨b, of + j, none⟩)]
    · exact h3
    · refine World.putObj_heap_other ?_
      rintro rfl
      simp only [World.cell?, hq] at h3
      cases ob <;> simp [Obj.isCells] at hc h3
theorem round_ok {K : Nat} (hΓ : ∀ f, Sound C.P f (Γ f)) {c : Code} {ac : AC} {l' : List Nat} {xs : List (Nat × List Nat)} {r' : List Nat} (hc : cCode C.P n c l' xs r' = some ac) (hr : rok c = true) {ts : List Nat} {d : Nat} {x : Int} {rr : AV} {a1 : Act}
    (h : call1 (evB Γ K ac (ts ++ [d])) hp (getA env ts ++ [.one (.int .u8 x)]) = some (rr, hp1)) (hst : StR C ρ n env hp a w) (hn : n ≤ a1.tmps.size) (hd : a1.defers = [])
    (ht : (ts ++ [d]).map (fun t => a1.tmps.getD t undef) = ts.map (fun t => a.tmps.getD t undef) ++ [.int .u8 x]) (q m : Nat) :
    c.wpIn (RF q) m C.P (fun e a' w' => ∃ b, rr = .one (.bool b) ∧ (e = .normal ∧ b = true ∨ e = .ret ∧ b = false) ∧ (∃ ρ1, StR C ρ1 n env hp1 a w') ∧ ∀ (p : Nat) (ob : Obj), w.heap[p]? = some ob → ob.isCells = false → w'.heap[p]? = some ob) a1 w := by
  unfold call1 callKs at h
  have hf : Fine hp (handKs hp (getA env ts ++ [.one (.int .u8 x)])) := reachL_fine hp 64 _ [] (Fine.nil hp)
  generalize handKs hp (getA env ts ++ [.one (.int .u8 x)]) = ks at h hf
  have hv : AVRL C hp.length ρ (getA env ts ++ [.one (.int .u8 x)]) (ts.map (fun t => a.tmps.getD t undef) ++ [.int .u8 x]) := (getA_ok hst.env ts).append (.cons _ _ _ _ (.one _ _ (.int _ _)) .nil)
  generalize getA env ts ++ [AV.one (.int .u8 x)] = args at h hv
  unfold comeBack at h
  split at h
  · simp at h
  · rename_i r0 os hcl
    simp only [Option.some.injEq, Prod.mk.injEq] at h
    obtain ⟨rfl, rfl⟩ := h
    have hlen : (tagAll false 0 (pick hp (posF ks) ks)).length = ks.length := by rw [tagAll_length, pick_length]
    have hla : AVRL (C.callee ρ ks w (argCells args) []) ks.length (rho ρ ks) (lendArgs hp ks 0 args) (ts.map (fun t => a.tmps.getD t undef) ++ [.int .u8 x]) := lendArgs_ok hst.fr hst.heap hf hv (fun i s h => by simpa using h)
    have he := envOf_ok (a := a1) hla ht.symm
    rw [← hlen] at he
    refine wpIn_mono (body_ok (C := C.callee ρ ks w (argCells args) []) hΓ hc hr hcl (FR.start rfl) (handed_ok hst.fr hst.heap hf) he hn hd q m) ?_
    rintro e a' w' ⟨b, ρc, rfl, hex, h2, h3⟩
    obtain ⟨ρ1, e1, e2, e3, e4, e5⟩ := call_back hst.fr hst.heap hf (lent_of hv) h2 h3 (AVR.one _ _ (.bool b))
    refine ⟨b, by simp [AV.back, SV.back, SV.strip, AV.ren, SV.ren], hex, ⟨ρ1, hst.env.ext e2 e1, e4, e5, hst.size, hst.defers⟩, fun p ob hp' hcc => callee_keeps hst.heap hf h3 hp' hcc⟩
theorem z_ok {K : Nat} (hΓ : ∀ f, Sound C.P f (Γ f)) (hm : C.P.follows .mixedOrders = true) {c : Code} {ac : AC} {l' : List Nat} {xs : List (Nat × List Nat)} {r' : List Nat} (hc : cCode C.P n c l' xs r' = some ac) {ts : List Nat} {args : List AV} {r : AV} {hp' : List Ob} {rs : List (Nat × Option (Option Nat))}
    (h : evZ Γ K ac ts rs args hp = some (r, hp')) (hF : FR C w) (hH : HR C ρ hp w) (he : EnvR C hp.length ρ (envOf ts args) a) (hn : n ≤ a.tmps.size) (hd : a.defers = C.df) :
    c.wp C.P (fun e a' w' => (e = .normal ∨ e = .ret) ∧ ∃ (st : St) (ρ1 : Nat → RV), StR C ρ1 n st.env st.hp a' w' ∧ give st.rts st.hp (resL st.env st.hp rs) = some (r, hp')) a w := by
  simp only [evZ] at h
  have hev : ∃ ex st, evC Γ K ac ⟨envOf ts args, avsCells args, hp⟩ = some (ex, st) ∧ give st.rts st.hp (resL st.env st.hp rs) = some (r, hp') ∧ (ex = .norm ∨ ex = .ret) := by
    unfold resC at h
    split at h
    · rename_i st e; exact ⟨_, st, e, h, .inl rfl⟩
    · rename_i st e; exact ⟨_, st, e, h, .inr rfl⟩
    · simp at h
  obtain ⟨ex, st, hev, hg, hex⟩ := hev
  refine wp_mono (code_ok hΓ hm c _ _ _ ac _ ex st ρ a w hc hev ⟨he, hH, hF, hn, hd⟩) fun e a1 w1 q => ?_
  cases e <;> simp only [QR] at q <;> try exact q.elim
  · obtain ⟨_, ρ1, hs⟩ := q
    exact ⟨.inl rfl, st, ρ1, hs, hg⟩
  · rcases hex with rfl | rfl <;> exact absurd q.1 (by simp)
  · obtain ⟨_, ρ1, hs⟩ := q
    exact ⟨.inr rfl, st, ρ1, hs, hg⟩
theorem give_ok {fn : Func} {rs : List (Nat × Option (Option Nat))} (hrs : fn.results.toList.mapM (cRes C.P) = some rs) {st : St} {r : AV} {hp' : List Ob} (hs1 : StR C ρ n st.env st.hp a w) (hg : give st.rts st.hp (resL st.env st.hp rs) = some (r, hp')) :
    ∃ v, (results fn a.tmps).run C.P w = .ok v w ∧ ∃ ρ', AVR C hp'.length ρ' r v ∧ HR C ρ' hp' w := by
  unfold give at hg
  split at hg
  · simp at hg
  · rename_i l hl
    obtain ⟨us, h1, h2⟩ := res_all hs1 hrs hl
    have hf : Fine st.hp (reachL st.hp 64 (st.rts ++ avCells (tupOf l)) []) := reachL_fine st.hp 64 _ [] (Fine.nil st.hp)
    generalize reachL st.hp 64 (st.rts ++ avCells (tupOf l)) [] = ks at hg hf
    simp only [giveKs, Option.some.injEq, Prod.mk.injEq] at hg
    obtain ⟨rfl, rfl⟩ := hg
    refine ⟨(if h : us.toArray.size = 1 then us.toArray[0] else .tuple us.toArray), ?_, rho ρ ks, ?_, hs1.heap.pick hf⟩
    · rw [results_eq, Array.mapM_eq_mapM_toList]
      simp [h1]
    · rw [pick_length]; exact AVR.ren turn_pos (tup_ok h2)
end
def doneR (rts : List SV) : Res → Res
  | some (r, hp) => give rts hp (some [r])
  | none => none
def endR (Z : Callee) (zs : List Nat) (rs : List (Nat × Option (Option Nat))) : Option (Bool × St) → Res
  | some (true, st) => doneR st.rts (call1 Z st.hp (getA st.env zs))
  | some (false, st) => give st.rts st.hp (resL st.env st.hp rs)
  | none => none
def itmR (F Z : Callee) (G t : Nat) (live ts zs : List Nat) (rs : List (Nat × Option (Option Nat))) (st : St) : Option (List Int) → Res
  | some xs => if xs.length ≤ 1000000 then endR Z zs rs (roundsR F G t xs live ts xs.reverse st) else none
  | none => none
def preR (f : St → Res) : Option (Ex × St) → Res
  | some (.norm, st) => f st
  | _ => none
def evR (Γ : Nat → Callee) (K : Nat) (pA pB pC : AC) (G t : Nat) (live ts : List Nat) (d : Nat) (bd : AC) (zs : List Nat) (z : AC) (rs : List (Nat × Option (Option Nat))) : Callee := fun args hp =>
  preR (fun st => itmR (evB Γ K bd (ts ++ [d])) (evZ Γ K z zs rs) G t live ts zs rs st (itemsR G st.hp (getT t st.env))) (evC Γ K (.seq pA (.seq pB pC)) ⟨argEnv 0 args, avsCells args, hp⟩)
def SlOk (W : World) (sv : Value) (xs : List Int) : Prop := ∃ ad cap, sv = .slice ad xs.length cap ∧ (0 < xs.length → ∃ b off, ad = some ⟨b, off, none⟩ ∧ ∀ (j : Nat) (u : Int), xs[j]? = some u → W.cell? ⟨b, off + j, none⟩ = some (.int .u8 u))
def ItOk (P : Program) (G : Nat) : Prop := ∀ (l Bs : Nat) (xs : List Int) (J : Nat → World → Prop) (Jx : World → Prop) (W : World), xs.length ≤ 1000000 →
  (∀ k W1, J k W1 → (k = 0 ∨ k < xs.length) → ∃ sv, W1.cell? ⟨Bs, 0, none⟩ = some sv ∧ SlOk W1 sv xs) →
  (∀ k W1, k < xs.length → J k W1 → YieldAt Fence.wide 1 P l #[.int .i64 ((xs.length - 1 - k : Nat) : Int), .int .u8 (xs.getD (xs.length - 1 - k) 0)] W1 fun e W' =>
    (e = .returned (.bool true) ∧ J (k + 1) W') ∨ (e = .returned (.bool false) ∧ Jx W')) → J 0 W →
  CallsIn Fence.wide 2 P G #[.func (.yield l) #[] #[], .pointer (some ⟨Bs, 0, none⟩)] W fun e W' => (∃ v, e = .returned v) ∧ (J xs.length W' ∨ Jx W')
section
variable {C : Cx} {ρ ρ' : Nat → RV} {hp hp1 : List Ob} {w w' : World} {o : Oper} {a : Act} {env : Env} {Γ : Nat → Callee} {n : Nat}
theorem items_ok {G t : Nat} {xs : List Int} (hst : StR C ρ n env hp a w) (h : itemsR G hp (getT t env) = some xs) : ∃ Bs, a.tmps.getD t undef = .func (.func G) #[] #[.pointer (some ⟨Bs, 0, none⟩)] ∧ ∃ sv, w.cell? ⟨Bs, 0, none⟩ = some sv ∧ SlOk w sv xs := by
  have h1 := hst.env t
  generalize getT t env = tv at h h1
  unfold itemsR at h
  split at h
  · rename_i g k
    split at h
    · rename_i hg; subst hg
      unfold boxR at h
      split at h
      · rename_i g' tg ys hk
        simp only [Option.some.injEq] at h; subst h
        generalize a.tmps.getD t undef = u at h1
        cases h1 with
        | one _ _ h1 =>
          cases h1 with
          | fn _ _ cs hcs =>
            cases hcs with
            | cons _ v _ vs hv hvs =>
              cases hvs
              cases hv with
              | ptr _ _ b hkl hh =>
                refine ⟨b, rfl, ?_⟩
                obtain ⟨b', T, cur, e1, _, e2, e3, _⟩ := hst.heap.ob k _ hk
                rw [hh] at e1; simp at e1; subst e1
                generalize hcl : cur.toList = cl at e3
                cases e3 with
                | cons _ v2 _ vs2 hv2 hvs2 =>
                  have hcur : cur[0]? = some v2 := by rw [← Array.getElem?_toList, hcl]; rfl
                  refine ⟨v2, by simp [World.cell?, e2, hcur], ?_⟩
                  cases hv2 with
                  | ro _ _ ad cap hr hcc =>
                    refine ⟨ad, cap, rfl, fun hlen => ?_⟩
                    obtain ⟨bb, of, rfl, q1, q2, q3⟩ := hr.2 hlen
                    refine ⟨bb, of, rfl, fun j u hj => ?_⟩
                    have h3 := q3 j (.int .u8 u) (by simp [RC.vals, hj])
                    have hlt : bb < C.w0.heap.size := World.block_lt_of_cell? _ _ h3
                    rw [World.cell?_of_block (w := C.w0) (a := ⟨bb, of + j, none⟩)]
                    · exact h3
                    · exact hst.fr.block bb hlt (fun hs => q1 (.inl hs))
      · rename_i g' c0 hk
        simp only [Option.some.injEq] at h; subst h
        generalize a.tmps.getD t undef = u at h1
        cases h1 with
        | one _ _ h1 =>
          cases h1 with
          | fn _ _ cs hcs =>
            cases hcs with
            | cons _ v _ vs hv hvs =>
              cases hvs
              cases hv with
              | ptr _ _ b hkl hh =>
                refine ⟨b, rfl, ?_⟩
                obtain ⟨b', T, cur, e1, _, e2, e3, _⟩ := hst.heap.ob k _ hk
                rw [hh] at e1; simp at e1; subst e1
                generalize hcl : cur.toList = cl at e3
                cases e3 with
                | cons _ v2 _ vs2 hv2 hvs2 =>
                  have hcur : cur[0]? = some v2 := by rw [← Array.getElem?_toList, hcl]; rfl
                  refine ⟨v2, by simp [World.cell?, e2, hcur], ?_⟩
                  cases hv2 with
                  | nils _ h0 hw0 => exact ⟨none, 0, rfl, fun hlen => by simp at hlen⟩
      · simp at h
    · simp at h
  · simp at h
end
theorem arr_at {A : Array Value} {p : Nat} {v u : Value} (h : p < A.size) : (A.setIfInBounds p v).getD p u = v := by
  rw [Array.getD_eq_getD_getElem?, Array.getElem?_setIfInBounds, if_pos rfl, if_pos h]; rfl
theorem arr_ne {A : Array Value} {p y : Nat} {v u : Value} (h : p ≠ y) : (A.setIfInBounds p v).getD y u = A.getD y u := by
  rw [Array.getD_eq_getD_getElem?, Array.getD_eq_getD_getElem?, Array.getElem?_setIfInBounds, if_neg h]
theorem round_tmps {A : Array Value} {ts : List Nat} {p1 p2 d : Nat} {v1 v2 u : Value} (hts : ∀ x ∈ ts, x ≠ p1 ∧ x ≠ p2 ∧ x ≠ d) (hd : d < A.size) :
    (ts ++ [d]).map (fun t => (((A.setIfInBounds p1 v1).setIfInBounds p2 v2).setIfInBounds d v2).getD t u) = ts.map (fun t => A.getD t u) ++ [v2] := by
  rw [List.map_append]
  congr 1
  · apply List.map_congr_left
    intro y hy
    obtain ⟨y1, y2, y3⟩ := hts y hy
    rw [arr_ne (Ne.symm y3), arr_ne (Ne.symm y2), arr_ne (Ne.symm y1)]
  · simp only [List.map_cons, List.map_nil]
    rw [arr_at (by simpa using hd)]
theorem zip2 (p1 p2 : Tmp) (v1 v2 : Value) (A : Array Value) : ((#[p1, p2] : Array Tmp).zip (#[v1, v2] : Array Value)).foldl (fun tmps (t, a) => tmps.setIfInBounds t a) A = (A.setIfInBounds p1 v1).setIfInBounds p2 v2 := by
  simp
theorem asn_ok {P : Program} {id p d m : Nat} {o : Oper} (ho : o.op = .assign (.tmp p)) (hd : o.dst = some d) (hg : o.guard = none) (q : Nat) (tm : Array Value) (W : World) (K : Act → World → Prop) (hK : K { tmps := tm.setIfInBounds d (tm.getD p undef), defers := [] } W) :
    (Code.region id #[o] false).wpIn (RF q) m P (Exit.then K (fun _ _ _ => False)) { tmps := tm, defers := [] } W := by
  refine wpIn_region ?_
  have e : List.range (#[o] : Array Oper).size = [0] := rfl
  rw [e]
  have e1 : (#[o] : Array Oper)[0]? = some o := rfl
  have hw : Region.wanted o (yielded #[o] tm) = true := by simp [Region.wanted, hg]
  simp only [wpOpsIn, e1]
  rw [if_pos hw]
  refine ⟨fun _ _ => trivial, ?_⟩
  have e2 : o.semAt (RF q).round (Act.eval { tmps := tm, defers := [] }) = execOp (Act.eval { tmps := tm, defers := [] }) o := Oper.semAt_some q _ o (by rw [ho]; simp)
  rw [e2]
  have e3 : (execOp (Act.eval { tmps := tm, defers := [] }) o).run P W = .ok (.value (tm.getD p undef)) W := by
    obtain ⟨dst, op, ty, pos, after, guard⟩ := o
    simp only at ho; subst ho
    simp [execOp, Act.eval]
  rw [e3]
  show K _ _
  simp only [Act.put, hd]
  exact hK
set_option maxHeartbeats 4000000 in
theorem fnR_ok {P : Program} {f : Nat} {Γ : Nat → Callee} {K : Nat} (hΓ : ∀ f, Sound P f (Γ f)) (hm : P.follows .mixedOrders = true) {fn : Func} {A B Cc asn bd Z : Code} {id t d p1 p2 G : Nat} {pA pB pC acb acz : AC} {ts zs live : List Nat} {rs : List (Nat × Option (Option Nat))}
    (hf : P.funcs[f]? = some fn) (hb : fn.body = some (.seq A (.seq B (.seq (.seq Cc (.block id (.rangeFunc (.tmp t) #[p1, p2] asn bd))) Z)))) (hbody : hasBody P f = true) (hle : fn.params.size + fn.nfree ≤ fn.ntmps) (hrs : fn.results.toList.mapM (cRes P) = some rs)
    (cA : cCode P fn.ntmps A [] [] [] = some pA) (cB : cCode P fn.ntmps B [] [] [] = some pB) (cC : cCode P fn.ntmps Cc [] [] [] = some pC) (cbd : cCode P fn.ntmps bd [] [] [] = some acb) (rbd : rok bd = true) (cZ : cCode P fn.ntmps Z [] [] [] = some acz)
    (hts : ∀ x ∈ ts, x ≠ p1 ∧ x ≠ p2 ∧ x ≠ d) (hp2 : p2 < fn.ntmps) (hdl : d < fn.ntmps) (hpd : p2 ≠ d)
    (hasn : ∀ (q : Nat) (tm : Array Value) (W : World) (K : Act → World → Prop), K { tmps := tm.setIfInBounds d (tm.getD p2 undef), defers := [] } W → asn.wpIn (RF q) 1 P (Exit.then K (fun _ _ _ => False)) { tmps := tm, defers := [] } W)
    (hG : hasBody P G = true) (hIt : ItOk P G) : Sound P f (evR Γ K pA pB pC G t live ts d acb zs acz rs) := by
  intro args hp r hp' h
  refine ⟨hbody, fun C ρ w rargs hP hw hD hargs hH => ?_⟩
  subst hP
  refine (callsIn_wide (n := 3)).1 (callsIn_of_wp_marks hf hb trivial ?_ rfl)
  have hst : StR C ρ fn.ntmps (argEnv 0 args) hp { tmps := rargs.toArray ++ Array.replicate (fn.ntmps - rargs.toArray.size) undef, defers := [] } w := by
    refine ⟨fun t => ?_, hH, FR.start hw, by simp; omega, hD.symm⟩
    rw [argEnv_get]
    simp only [Nat.not_lt_zero, if_false, Nat.sub_zero]
    by_cases ht : t < args.length
    · obtain ⟨v, hv1, hv2⟩ := hargs.get (List.getElem?_eq_getElem ht)
      have hlt : t < rargs.length := (List.getElem?_eq_some_iff.1 hv1).1
      rw [Array.getD_eq_getD_getElem?, Array.getElem?_append_left (by simpa using hlt)]
      rw [List.getElem?_toArray, hv1]
      simp only [List.getD, List.getElem?_eq_getElem ht, Option.getD_some]
      exact hv2
    · rw [List.getD, List.getElem?_eq_none (by omega)]
      exact .one _ _ (.undef _)
  have hst0 : ∃ rts0, StR C ρ fn.ntmps (⟨argEnv 0 args, rts0, hp⟩ : St).env (⟨argEnv 0 args, rts0, hp⟩ : St).hp { tmps := rargs.toArray ++ Array.replicate (fn.ntmps - rargs.toArray.size) undef, defers := [] } w := ⟨handed (avsCells args), hst⟩
  -- the run ahead of the loop
  simp only [evR] at h
  unfold preR at h
  split at h
  · rename_i st3 hpre
    simp only [evC] at hpre
    unfold thenC at hpre
    split at hpre <;> try (simp at hpre; done)
    rename_i st1 hA
    dsimp only at hpre
    split at hpre <;> try (simp at hpre; done)
    rename_i st2 hB
    have hC3 := hpre
    unfold itmR at h
    dsimp only at h
    split at h
    · rename_i xs hitm
      split at h
      · rename_i hxl
        obtain ⟨fin, hfin⟩ : ∃ fin, roundsR (evB Γ K acb (ts ++ [d])) G t xs live ts xs.reverse st3 = some fin := by
          cases hfin : roundsR (evB Γ K acb (ts ++ [d])) G t xs live ts xs.reverse st3 with
          | none => rw [hfin] at h; simp [endR] at h
          | some fin => exact ⟨fin, rfl⟩
        rw [hfin] at h
        refine wpIn_seq (wpIn_mono (wpIn_wide.2 (code_ok hΓ hm A _ _ _ pA _ _ _ ρ _ w cA hA hst)) fun e a1 w1 hq => ?_)
        cases e <;> simp only [QR] at hq <;> try exact hq.elim
        case exit => exact absurd hq.1 (by simp)
        case ret => exact absurd hq.1 (by simp)
        obtain ⟨_, ρ1, hs1⟩ := hq
        refine wpIn_seq (wpIn_mono (wpIn_wide.2 (code_ok hΓ hm B _ _ _ pB _ _ _ ρ1 _ w1 cB hB hs1)) fun e a2 w2 hq => ?_)
        cases e <;> simp only [QR] at hq <;> try exact hq.elim
        case exit => exact absurd hq.1 (by simp)
        case ret => exact absurd hq.1 (by simp)
        obtain ⟨_, ρ2, hs2⟩ := hq
        refine wpIn_seq (wpIn_seq (wpIn_mono (wpIn_wide.2 (code_ok hΓ hm Cc _ _ _ pC _ _ _ ρ2 _ w2 cC hC3 hs2)) fun e a3 w3 hq => ?_))
        cases e <;> simp only [QR] at hq <;> try exact hq.elim
        case exit => exact absurd hq.1 (by simp)
        case ret => exact absurd hq.1 (by simp)
        obtain ⟨_, ρ3, hs3⟩ := hq
        refine wpIn_block ?_
        obtain ⟨Bs, hgv, hmem0⟩ := items_ok hs3 hitm
        have hdef3 : a3.defers = [] := hs3.defers.trans hD
        have hsz3 := hs3.size
        -- the results, at the end
        have leave : ∀ (a5 : Act) (w5 : World) (D : Nat), a5.defers = [{ target := .collected D, args := #[] }] → w5.heap[D]? = some (.deferred (some [])) →
            (∃ v, (results fn a5.tmps).run C.P (w5.putObj D (.deferred none)) = .ok v (w5.putObj D (.deferred none)) ∧ ∃ ρ' rv, Ending.returned v = .returned rv ∧ AVR C hp'.length ρ' r rv ∧ HR C ρ' hp' (w5.putObj D (.deferred none)) ∧ FR C (w5.putObj D (.deferred none))) →
            LeavesInM Fence.wide 3 C.P fn a5.tmps (fun e w' => ∃ ρ' rv, e = .returned rv ∧ AVR C hp'.length ρ' r rv ∧ HR C ρ' hp' w' ∧ FR C w') a5.defers .returning w5 := by
          intro a5 w5 D hd5 hk5 hR
          rw [hd5]
          exact ⟨by simp, .inl ⟨D, w5.putObj D (.deferred none), rfl, run_takeDeferred hk5, hR⟩⟩
        refine wpIn_rangeFunc fun fi hfi => ?_
        obtain ⟨rec, hrec⟩ : ∃ rec : LoopState → Option Code → Loop, rec = fun s pe => { state := s, pending := pe, fn := fi, tmps := a3.tmps, params := #[p1, p2], assign := asn, body := bd, defers := w3.heap.size } := ⟨_, rfl⟩
        obtain ⟨W1, hW1⟩ : ∃ W1, (w3.alloc (.deferred (some []))).alloc (.loop (rec .ready none)) = W1 := ⟨_, rfl⟩
        have hL1 : W1.heap[w3.heap.size + 1]? = some (.loop (rec .ready none)) := by
          rw [← hW1]
          have := World.alloc_heap_new (w3.alloc (.deferred (some []))) (.loop (rec .ready none))
          rwa [World.size_alloc] at this
        have hK1 : W1.heap[w3.heap.size]? = some (.deferred (some [])) := by
          rw [← hW1]
          exact (RowKit.Below.heap_alloc _ _ _ (by simp)).trans (World.alloc_heap_new w3 _)
        have hsW1 : StR C ρ3 fn.ntmps st3.env st3.hp a3 W1 := by rw [← hW1]; exact (hs3.alloc _).alloc _
        have hw0 : C.w0.heap.size ≤ w3.heap.size := hs3.fr.size
        refine ⟨w3.heap.size + 1, [{ target := .collected w3.heap.size, args := #[] }], W1, { target := .fn (.func G) #[.pointer (some ⟨Bs, 0, none⟩)], args := #[.func (.yield (w3.heap.size + 1)) #[] #[]] }, W1, G,
          #[.func (.yield (w3.heap.size + 1)) #[] #[]] ++ #[.pointer (some ⟨Bs, 0, none⟩)], W1, ?_, ?_, fun _ _ => trivial, ?_, fun _ => by omega, ?_⟩
        · rw [← hW1, hrec]; exact run_enterLoop_outer _ _ _ _ _
        · have hg' : a3.eval (.tmp t) = .func (.func G) #[] #[.pointer (some ⟨Bs, 0, none⟩)] := hgv
          simp only [resolve, hg']
          simp [go_sem]
        · have := run_enter hG (#[.func (.yield (w3.heap.size + 1)) #[] #[]] ++ #[.pointer (some ⟨Bs, 0, none⟩)]) W1
          simpa [invoke] using this
        · -- the iterator
          refine (hIt (w3.heap.size + 1) Bs xs
            (fun k W => ∃ st ρ, StR C ρ fn.ntmps st.env st.hp a3 W ∧ roundsR (evB Γ K acb (ts ++ [d])) G t xs live ts (xs.reverse.drop k) st = some fin ∧ (k = 0 → itemsR G st.hp (getT t st.env) = some xs) ∧ W.heap[w3.heap.size + 1]? = some (.loop (rec .ready none)) ∧ W.heap[w3.heap.size]? = some (.deferred (some [])))
            (fun W => ∃ st ρ, fin = (false, st) ∧ StR C ρ fn.ntmps st.env st.hp a3 W ∧ W.heap[w3.heap.size + 1]? = some (.loop (rec .done (some .ret))) ∧ W.heap[w3.heap.size]? = some (.deferred (some [])))
            W1 hxl ?_ ?_ ⟨st3, ρ3, hsW1, by simpa using hfin, fun _ => hitm, hL1, hK1⟩).mono ?_
          · -- where the bytes lie
            rintro k W ⟨st, ρ4, hs, hrd, h0, _, _⟩ hk
            rcases hk with rfl | hk
            · obtain ⟨Bs', e1, e2⟩ := items_ok hs (h0 rfl)
              rw [hgv] at e1; simp at e1; subst e1
              exact e2
            · have hdr : xs.reverse.drop k = xs.reverse[k]'(by simpa using hk) :: xs.reverse.drop (k + 1) := List.drop_eq_getElem_cons (by simpa using hk)
              rw [hdr] at hrd
              simp only [roundsR, stepR] at hrd
              split at hrd
              · rename_i hi
                obtain ⟨ρ5, hs5⟩ := hs.head (live := live)
                obtain ⟨Bs', e1, e2⟩ := items_ok hs5 hi
                rw [hgv] at e1; simp at e1; subst e1
                exact e2
              · simp at hrd
          · -- a round
            rintro k W hk ⟨st, ρ4, hs, hrd, h0, hl, hD1⟩
            have hdr : xs.reverse.drop k = xs.reverse[k]'(by simpa using hk) :: xs.reverse.drop (k + 1) := List.drop_eq_getElem_cons (by simpa using hk)
            rw [hdr] at hrd
            have hx : xs.getD (xs.length - 1 - k) 0 = xs.reverse[k]'(by simpa using hk) := by
              rw [List.getElem_reverse, List.getD, List.getElem?_eq_getElem (by omega)]; rfl
            rw [hx]
            generalize xs.reverse[k]'(by simpa using hk) = x at hrd
            simp only [roundsR, stepR] at hrd
            split at hrd
            · rename_i hi
              obtain ⟨ρ5, hs5⟩ := hs.head (live := live)
              generalize st.head live = sth at hrd hs5 hi
              unfold nextR at hrd
              have hlt : w3.heap.size + 1 < W.heap.size := (Array.getElem?_eq_some_iff.1 hl).1
              have hy := run_yield (P := C.P) (args := #[.int .i64 ((xs.length - 1 - k : Nat) : Int), .int .u8 x]) hl (by rw [hrec]; rfl)
              rw [hrec] at hy
              refine ⟨fi, _, asn, bd, hy, roundIn_of_wpIn hfi (hasn _ _ W _ ⟨_, run_beginRound hl (by rw [hrec]), ?_⟩)⟩
              have hl2 : (W.putObj (w3.heap.size + 1) (.loop { rec .ready none with state := .busy })).heap[w3.heap.size + 1]? = some (.loop { rec .ready none with state := .busy }) := World.putObj_heap_same hlt
              have hk2 : (W.putObj (w3.heap.size + 1) (.loop { rec .ready none with state := .busy })).heap[w3.heap.size]? = some (.deferred (some [])) := (World.putObj_heap_other (by omega)).trans hD1
              have hs6 := hs5.putObj (o' := .loop { rec .ready none with state := .busy }) hl rfl (by omega)
              rw [zip2, arr_at (by simp; omega)]
              have ht2 := round_tmps (A := a3.tmps) (v1 := .int .i64 ((xs.length - 1 - k : Nat) : Int)) (v2 := .int .u8 x) (u := undef) hts (by omega : d < a3.tmps.size)
              have hn2 : fn.ntmps ≤ (((a3.tmps.setIfInBounds p1 (.int .i64 ((xs.length - 1 - k : Nat) : Int))).setIfInBounds p2 (.int .u8 x)).setIfInBounds d (.int .u8 x)).size := by simpa using hsz3
              generalize ((a3.tmps.setIfInBounds p1 (.int .i64 ((xs.length - 1 - k : Nat) : Int))).setIfInBounds p2 (.int .u8 x)).setIfInBounds d (.int .u8 x) = tm2 at ht2 hn2 ⊢
              have fin1 : ∀ (jump : Option Code) (w4 : World), (∀ (p : Nat) (ob : Obj), (W.putObj (w3.heap.size + 1) (.loop { rec .ready none with state := .busy })).heap[p]? = some ob → ob.isCells = false → w4.heap[p]? = some ob) →
                  w4.heap[w3.heap.size + 1]? = some (.loop { rec .ready none with state := .busy }) ∧ (Instr.endRound (w3.heap.size + 1) jump).run C.P w4 = .ok (.bool jump.isNone) (w4.putObj (w3.heap.size + 1) (.loop (rec (if jump.isNone then .ready else .done) jump))) ∧
                  (w4.putObj (w3.heap.size + 1) (.loop (rec (if jump.isNone then .ready else .done) jump))).heap[w3.heap.size + 1]? = some (.loop (rec (if jump.isNone then .ready else .done) jump)) ∧
                  (w4.putObj (w3.heap.size + 1) (.loop (rec (if jump.isNone then .ready else .done) jump))).heap[w3.heap.size]? = some (.deferred (some [])) := fun jump w4 hk4 => by
                have hl4 := hk4 _ _ hl2 rfl
                have hr := run_endRound (P := C.P) jump hl4
                rw [hrec] at hr hl4 ⊢
                exact ⟨hl4, hr, World.putObj_heap_same (Array.getElem?_eq_some_iff.1 hl4).1, (World.putObj_heap_other (by omega)).trans (hk4 _ _ hk2 rfl)⟩
              split at hrd
              · rename_i hp1 hcall
                refine wpIn_mono (round_ok hΓ cbd rbd hcall hs6 hn2 rfl ht2 _ 1) ?_
                rintro e a4 w4 ⟨b, hbb, hex, ⟨ρ6, hs7⟩, hkeep⟩
                simp only [AV.one.injEq, SV.bool.injEq] at hbb
                subst hbb
                rcases hex with ⟨rfl, _⟩ | ⟨_, hbf⟩
                · obtain ⟨f0, f1, f2, f3⟩ := fin1 none w4 hkeep
                  exact ⟨_, _, f1, .inl ⟨rfl, ⟨sth.env, sth.rts, hp1⟩, ρ6, hs7.putObj f0 rfl (by omega), hrd, fun h => by omega, f2, f3⟩⟩
                · cases hbf
              · rename_i hp1 hcall
                simp only [Option.some.injEq] at hrd
                refine wpIn_mono (round_ok hΓ cbd rbd hcall hs6 hn2 rfl ht2 _ 1) ?_
                rintro e a4 w4 ⟨b, hbb, hex, ⟨ρ6, hs7⟩, hkeep⟩
                simp only [AV.one.injEq, SV.bool.injEq] at hbb
                subst hbb
                rcases hex with ⟨_, hbf⟩ | ⟨rfl, _⟩
                · cases hbf
                · obtain ⟨f0, f1, f2, f3⟩ := fin1 (some .ret) w4 hkeep
                  exact ⟨_, _, f1, .inr ⟨rfl, ⟨sth.env, sth.rts, hp1⟩, ρ6, hrd.symm, hs7.putObj f0 rfl (by omega), f2, f3⟩⟩
              · simp at hrd
            · simp at hrd
          · -- behind the iterator
            rintro e W2 ⟨⟨v, rfl⟩, ⟨st, ρ4, hs, hrd, _, hl, hD1⟩ | ⟨st, ρ4, hfi2, hs, hl, hD1⟩⟩
            · -- all have come
              rw [List.drop_eq_nil_of_le (by simp)] at hrd
              simp only [roundsR, Option.some.injEq] at hrd
              subst hrd
              simp only [endR] at h
              unfold doneR at h
              split at h
              · rename_i r2 hp2 hcall
                have hel := run_endLoop (P := C.P) hl (by rw [hrec]; simp)
                rw [hrec] at hel
                refine ⟨none, _, hel, ?_⟩
                have hs4 := hs.putObj (o' := .loop { state := .exhausted, pending := none, fn := fi, tmps := a3.tmps, params := #[p1, p2], assign := asn, body := bd, defers := w3.heap.size }) hl rfl (by omega)
                have hD4 : (W2.putObj (w3.heap.size + 1) (.loop { state := .exhausted, pending := none, fn := fi, tmps := a3.tmps, params := #[p1, p2], assign := asn, body := bd, defers := w3.heap.size })).heap[w3.heap.size]? = some (.deferred (some [])) := (World.putObj_heap_other (by omega)).trans hD1
                generalize W2.putObj (w3.heap.size + 1) (.loop { state := .exhausted, pending := none, fn := fi, tmps := a3.tmps, params := #[p1, p2], assign := asn, body := bd, defers := w3.heap.size }) = w4 at hs4 hD4 ⊢
                show Z.wpIn Fence.wide 3 C.P _ _ w4
                -- what is behind, as a call
                unfold call1 callKs at hcall
                have hff : Fine st.hp (handKs st.hp (getA st.env zs)) := reachL_fine st.hp 64 _ [] (Fine.nil st.hp)
                generalize handKs st.hp (getA st.env zs) = ks at hcall hff
                have hv := getA_ok hs4.env zs
                generalize getA st.env zs = zargs at hcall hv
                unfold comeBack at hcall
                split at hcall
                · simp at hcall
                · rename_i r0 os hcl
                  simp only [Option.some.injEq, Prod.mk.injEq] at hcall
                  obtain ⟨rfl, rfl⟩ := hcall
                  have hlen : (tagAll false 0 (pick st.hp (posF ks) ks)).length = ks.length := by rw [tagAll_length, pick_length]
                  have hla : AVRL (C.callee ρ4 ks w4 (argCells zargs) [{ target := .collected w3.heap.size, args := #[] }]) ks.length (rho ρ4 ks) (lendArgs st.hp ks 0 zargs) _ := lendArgs_ok hs4.fr hs4.heap hff hv (fun i s h => by simpa using h)
                  have he := envOf_ok (a := { a3 with defers := [{ target := .collected w3.heap.size, args := #[] }] ++ a3.defers }) hla rfl
                  rw [← hlen] at he
                  refine wpIn_wide.2 (wp_mono (z_ok (C := C.callee ρ4 ks w4 (argCells zargs) [{ target := .collected w3.heap.size, args := #[] }]) hΓ hm cZ hcl (FR.start rfl) (handed_ok hs4.fr hs4.heap hff) he hsz3 (by rw [hdef3]; rfl)) ?_)
                  rintro e a5 w5 ⟨hex, st5, ρ5, hs5, hg5⟩
                  have hD5 : w5.heap[w3.heap.size]? = some (.deferred (some [])) := callee_keeps hs4.heap hff hs5.fr hD4 rfl
                  have hreads := reads_put (C := C) (ρ := ρ4) (ks := ks) (cs := argCells zargs) (D := [{ target := .collected w3.heap.size, args := #[] }]) (ob' := .deferred none) hD4 rfl
                  have hDlt : w3.heap.size < w4.heap.size := (Array.getElem?_eq_some_iff.1 hD4).1
                  have hs6 : StR (C.callee ρ4 ks (w4.putObj w3.heap.size (.deferred none)) (argCells zargs) [{ target := .collected w3.heap.size, args := #[] }]) ρ5 fn.ntmps st5.env st5.hp a5 (w5.putObj w3.heap.size (.deferred none)) := by
                    refine ⟨fun t => AVR.conv hreads (hs5.env t), ?_, ?_, hs5.size, hs5.defers⟩
                    · refine HR.conv (C := C.callee ρ4 ks w4 (argCells zargs) [{ target := .collected w3.heap.size, args := #[] }]) hreads (fun b hb => ?_) rfl (hs5.heap.world fun k b ha hb' => ?_)
                      · rcases hb with hb | hb
                        · exact .inl hb
                        · refine .inr ?_
                          show (w4.putObj w3.heap.size (.deferred none)).heap.size ≤ b
                          rw [World.putObj_size]; exact hb
                      · obtain ⟨cur, T, fr, e⟩ := hs5.heap.cellsAt ha hb'
                        refine World.putObj_heap_other ?_
                        rintro rfl
                        rw [hD5] at e; simp at e
                    · refine ⟨?_, fun b hb1 hb2 => ?_, hs5.fr.os, hs5.fr.tape, hs5.fr.output⟩
                      · show (w4.putObj w3.heap.size (.deferred none)).heap.size ≤ _
                        rw [World.putObj_size, World.putObj_size]; exact hs5.fr.size
                      · have hb1' : b < w4.heap.size := by
                          have : b < (w4.putObj w3.heap.size (.deferred none)).heap.size := hb1
                          rwa [World.putObj_size] at this
                        show _ = (w4.putObj w3.heap.size (.deferred none)).heap[b]?
                        by_cases e : b = w3.heap.size
                        · subst e
                          rw [World.putObj_heap_same hDlt, World.putObj_heap_same (Array.getElem?_eq_some_iff.1 hD5).1]
                        · rw [World.putObj_heap_other e, World.putObj_heap_other e]
                          exact hs5.fr.block b hb1' hb2
                  obtain ⟨v, hv1, ρ7, hv2, hv3⟩ := give_ok (C := C.callee ρ4 ks (w4.putObj w3.heap.size (.deferred none)) (argCells zargs) [{ target := .collected w3.heap.size, args := #[] }]) hrs hs6 hg5
                  have hsC := hs4.putObj (o' := .deferred none) hD4 rfl hw0
                  obtain ⟨ρ8, e1, e2, e3, e4, e5⟩ := call_back hsC.fr hsC.heap hff (lent_of hv) hv3 hs6.fr hv2
                  simp only [give, tupOf] at h
                  have hf9 := reachL_fine (layBack st.hp ks (backF ks st.hp.length os) (argCells zargs) os (killAll st.hp ks)) 64 (st.rts ++ avCells ((r0.back (argCells zargs)).ren (backF ks st.hp.length os))) [] (Fine.nil _)
                  generalize reachL (layBack st.hp ks (backF ks st.hp.length os) (argCells zargs) os (killAll st.hp ks)) 64 (st.rts ++ avCells ((r0.back (argCells zargs)).ren (backF ks st.hp.length os))) [] = ks9 at h hf9
                  simp only [giveKs, Option.some.injEq, Prod.mk.injEq] at h
                  obtain ⟨rfl, rfl⟩ := h
                  have hlv := leave a5 w5 w3.heap.size hs5.defers hD5 ⟨v, hv1, rho ρ8 ks9, v, rfl, by rw [pick_length]; exact AVR.ren turn_pos e3, e4.pick hf9, e5⟩
                  rcases hex with rfl | rfl
                  · exact hlv
                  · exact hlv
              · simp at h
            · -- a round has left
              subst hfi2
              simp only [endR] at h
              have hel := run_endLoop (P := C.P) hl (by rw [hrec]; simp)
              rw [hrec] at hel
              refine ⟨some .ret, _, hel, ?_⟩
              have hs4 := hs.putObj (o' := .loop { state := .exhausted, pending := some .ret, fn := fi, tmps := a3.tmps, params := #[p1, p2], assign := asn, body := bd, defers := w3.heap.size }) hl rfl (by omega)
              have hD4 : (W2.putObj (w3.heap.size + 1) (.loop { state := .exhausted, pending := some .ret, fn := fi, tmps := a3.tmps, params := #[p1, p2], assign := asn, body := bd, defers := w3.heap.size })).heap[w3.heap.size]? = some (.deferred (some [])) := (World.putObj_heap_other (by omega)).trans hD1
              generalize W2.putObj (w3.heap.size + 1) (.loop { state := .exhausted, pending := some .ret, fn := fi, tmps := a3.tmps, params := #[p1, p2], assign := asn, body := bd, defers := w3.heap.size }) = w4 at hs4 hD4 ⊢
              refine wpIn_ret ?_
              have hsC := hs4.putObj (o' := .deferred none) hD4 rfl hw0
              obtain ⟨v, hv1, ρ7, hv2, hv3⟩ := give_ok hrs hsC h
              exact leave { a3 with defers := [{ target := .collected w3.heap.size, args := #[] }] ++ a3.defers } w4 w3.heap.size (by rw [hdef3]; rfl) hD4 ⟨v, hv1, ρ7, v, rfl, hv2, hv3, hsC.fr⟩
      · simp at h
    · simp at h
  · simp at h
end Go.X
namespace Go.Proofs
open Go.RowKit Go.Shelf
attribute [local go_sem] Oper.semAt_some
set_option maxRecDepth 100000 in
set_option maxHeartbeats 2000000 in
theorem Tryz.it114 : Go.X.ItOk Tryz.prog 114 := by
  intro l Bs xs J Jx W hxl hJm hY h0
  obtain ⟨sv0, hb0, ad0, cap0, rfl, hm0⟩ := hJm 0 W h0 (.inl rfl)
  refine callsIn_of_wp Tryz.func114 rfl trivial ?_ rfl
  simp only [Tryz.ntmps114, List.size_toArray, List.length_cons, List.length_nil, Nat.reduceAdd, Nat.reduceSub, Array.replicate_succ, Array.replicate_zero, List.push_toArray, List.append_toArray, List.nil_append, List.cons_append]
  gi_wp2
  gi_loopw [3] (fun i wr => (∃ m : Nat, m < xs.length ∧ i = .int .i64 (m : Int) ∧ J (xs.length - 1 - m) wr) ∨ (i = .int .i64 (-1) ∧ J xs.length wr)) (fun i _ => (intOf i + 1).toNat)
  case atStart =>
    rcases Nat.eq_zero_or_pos xs.length with hz | hz
    · right
      rw [hz]
      exact ⟨rfl, h0⟩
    · left
      refine ⟨xs.length - 1, by omega, by congr 1; omega, ?_⟩
      rw [Nat.sub_self]
      exact h0
  case round =>
    rcases hrel with ⟨m, hm, rfl, hJs⟩ | ⟨rfl, hJs⟩
    · obtain ⟨sv, hb1, ad1, cap1, rfl, hm1⟩ := hJm _ wr hJs (.inr (by omega))
      obtain ⟨b, off, rfl, hcell⟩ := hm1 (by omega)
      obtain ⟨fn, tmps, assign, body, hy, hR⟩ := hY _ wr (by omega) hJs
      have e1 : xs.length - 1 - (xs.length - 1 - m) = m := by omega
      rw [e1] at hy
      obtain ⟨x, hx⟩ : ∃ x, xs[m]? = some x := ⟨_, List.getElem?_eq_getElem hm⟩
      have hxD : xs.getD m 0 = x := by simp [List.getD, hx]
      rw [hxD] at hy
      have hcx := hcell m x hx
      clear hx hxD hcell
      gi_wp2
      refine hR.mono ?_
      rintro e W3 (⟨rfl, hJ3⟩ | ⟨rfl, hJx3⟩)
      · gi_wp2
        go_roundw
        case rel =>
          rcases Nat.eq_zero_or_pos m with hz | hz
          · right
            subst hz
            refine ⟨by simp, ?_⟩
            rw [show xs.length - 1 - 0 + 1 = xs.length by omega] at hJ3
            exact hJ3
          · left
            refine ⟨m - 1, by omega, by congr 1; omega, ?_⟩
            rw [show xs.length - 1 - (m - 1) = xs.length - 1 - m + 1 by omega]
            exact hJ3
        case measure => simp [intOf]
      · gi_wp2
        refine bodyPost_ret (results_none rfl _ _ _) rfl ?_
        exact ⟨⟨_, rfl⟩, .inr hJx3⟩
    · gi_wp2
      go_end0
      exact ⟨⟨_, rfl⟩, .inl hJs⟩
end Go.Proofs
