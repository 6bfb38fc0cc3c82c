import Derived.ProofKit
import Derived.OpenShut
import Derived.Carry
import Derived.IntWalk
import Derived.Test.YtnbmmdkcmgdpdaaProg
import Derived.StillTailTactics
import Derived.Sort.Grow
import Derived.LoopN
import Derived.Deep.Draws
import Derived.Shelf.Small.Bits
import Derived.Shelf.Small.Strs
import Derived.Shelf.Strconv.Itoa0
import Derived.Shelf.Sort.Plain
import Derived.Shelf.Strings.Prefix
import Derived.Ground.Names2Prog
import Derived.Shelf.Slices.Clone
import Derived.Shelf.Slices.In.SortNone
import Derived.Ground.SlsfProg
import Derived.Shelf.SlSortCmp.Insertion
import Derived.Shelf.SlSortCmp.SiftDown1
import Derived.Shelf.SlSortCmp.HeapSort1
import Derived.Shelf.SlSortCmp.Insertion1
import Derived.Shelf.SlSortCmp.Median1
import Derived.Shelf.SlSortCmp.Pivot1
import Derived.Shelf.SlSortCmp.ReverseRange1
import Derived.Shelf.SlSortCmp.PartialInsertion1
import Derived.Shelf.SlSortCmp.PartitionEqual1
import Derived.Shelf.SlSortCmp.Partition1
import Derived.Shelf.SlSortCmp.Pdq1
import Derived.Shelf.SlSortCmp.Whole1
import Derived.Shelf.SlSortCmp.NoneTotal
import Derived.Test.YtnbmmdkcmgdpdaaZ1
set_option linter.unusedVariables false
set_option linter.unusedSimpArgs false
set_option linter.unusedSectionVars false
set_option maxRecDepth 100000
namespace Go.X
section
variable {Γ : Nat → Callee} {C : Cx} {n n' : Nat} {ρ ρ' : Nat → RV} {s : Nat}
theorem killAll_at {k : Nat} : ∀ {S : List Nat} (hp : List Ob), (killAll hp S)[k]? = if k ∈ S ∧ k < hp.length then some .dead else hp[k]?
  | [], hp => by simp [killAll]
  | x :: S, hp => by
    simp only [killAll]
    rw [killAll_at (S := S)]
    by_cases e : k = x
    · subst e
      by_cases hk : k < hp.length
      · simp [hk]
      · simp [hk, List.getElem?_set]
    · simp [e, List.getElem?_set_ne (Ne.symm e)]
def pend (fs : List (Nat × Nat × FO)) (listed : Array Bool) : List Nat := (fs.filter fun f => !listed.getD f.1 false).map (·.2.1)
theorem mem_pend {fs : List (Nat × Nat × FO)} {listed : Array Bool} {s : Nat} : s ∈ pend fs listed ↔ ∃ f ∈ fs, f.2.1 = s ∧ ¬ doneD listed f.1 := by
  simp only [pend, List.mem_map, List.mem_filter, Bool.not_eq_true', doneD, Bool.not_eq_true]
  constructor
  · rintro ⟨f, ⟨h1, h2⟩, h3⟩; exact ⟨f, h1, h3, h2⟩
  · rintro ⟨f, h1, h3, h2⟩; exact ⟨f, ⟨h1, h2⟩, h3⟩
theorem zcells_sv : ∀ {z : List ZV} (hp : List Ob), allSv z = true → zcells z hp = ((zcells z []).1, hp)
  | [], hp, _ => rfl
  | .sv v :: z, hp, h => by
    simp only [allSv, Bool.and_eq_true] at h
    simp only [zcells]
    rw [zcells_sv hp h.2]
  | .nil c :: z, hp, h => by simp [allSv] at h
theorem fvsOf_inv : ∀ {l : List SV} {m : List FV}, fvsOf l = some m → l = m.map FV.sv
  | [], m, h => by simp [fvsOf] at h; subst h; rfl
  | v :: l, m, h => by
    simp only [fvsOf, Option.bind_eq_some_iff, Option.map_eq_some_iff] at h
    obtain ⟨s, hs, m', hm, rfl⟩ := h
    rw [fvsOf_inv hm]
    cases v <;> simp [svF] at hs <;> subst hs <;> rfl
theorem scsOf_inv : ∀ {l : List SV} {m : List Sc}, scsOf l = some m → l = m.map Sc.sv
  | [], m, h => by simp [scsOf] at h; subst h; rfl
  | v :: l, m, h => by
    simp only [scsOf, Option.bind_eq_some_iff, Option.map_eq_some_iff] at h
    obtain ⟨s, hs, m', hm, rfl⟩ := h
    rw [scsOf_inv hm]
    cases v <;> simp [SV.sc] at hs <;> subst hs <;> rfl
theorem F_op {op : AOp} {env : Env} {c : FO} (hf : isF op = true) (h : rowOf (evOp Γ env [] op) = some c) (M : List Ob) : evOp Γ env M op = some (.one (fval M.length op), M ++ [c.ob]) := by
  have put : ∀ {r : Option RC}, rowOf (putR [] r) = some c → putR M r = some (.one (.row M.length), M ++ [c.ob]) := by
    intro r h
    cases r with
    | none => simp [putR, rowOf] at h
    | some d =>
      simp [putR, newRow, rowOf] at h
      subst h; rfl
  cases op
  case newNil c0 => simp only [evOp] at h ⊢; exact put (r := some c0) h
  case bslice c0 z l ps => simp only [evOp] at h ⊢; exact put h
  case mks c0 z b l x =>
    simp only [evOp] at h ⊢
    unfold oMks at h ⊢
    split at h
    · split at h
      · rename_i hc; rw [if_pos hc]; exact put h
      · simp [rowOf] at h
    · simp [rowOf] at h
  case append c0 b x y =>
    obtain ⟨d0, rfl⟩ : ∃ d0, x = .const (.one (.nils d0)) := by
      cases x with
      | tmp t => simp [isF] at hf
      | const v =>
        cases v with
        | one v => cases v <;> first | exact ⟨_, rfl⟩ | simp [isF] at hf
        | agg l => simp [isF] at hf
        | tup l => simp [isF] at hf
    have e0 : getS env (.const (.one (.nils d0))) = .nils d0 := rfl
    simp only [evOp, Go.X.append, e0] at h ⊢
    generalize getS env y = yv at h ⊢
    have src : ∀ d, source [] c0 yv = some d → source M c0 yv = some d := by
      intro d hd
      cases yv <;> simp [source, content, rowAt, cutAt] at hd ⊢ <;> exact hd
    cases hy : source [] c0 yv with
    | none => rw [hy] at h; simp [app1, rowOf] at h
    | some d =>
      rw [hy] at h
      rw [src d hy]
      simp only [app1, app2] at h ⊢
      split at h
      · rename_i hc; rw [if_pos hc]; exact put h
      · simp [rowOf] at h
  case alloc z =>
    simp only [isF] at hf
    simp only [evOp] at h ⊢
    rw [zcells_sv [] hf] at h
    rw [zcells_sv M hf]
    simp only [List.length_nil, List.nil_append, rowOf] at h
    unfold zO at h
    split at h
    · rename_i l e
      simp at h; subst h
      simp only [fval, FO.ob]
      rw [fvsOf_inv e]
    · cases h
  all_goals simp [isF] at hf
theorem noKey_of {S : List Nat} {env : Env} {a : Act} {x : AO} (hS : ∀ k ∈ S, Poison ρ k) (he : EnvR C n ρ env a) (h : noKey x = true) : ¬ keyIn S (getS env x) := by
  cases x with
  | const v =>
    simp only [noKey] at h
    simp only [getS, getO]
    generalize v.sv = w at h
    cases w <;> simp [keyIn] at h ⊢
  | tmp t =>
    simp only [getS, getO]
    have h1 := he t
    generalize getT t env = v at h1
    generalize a.tmps.getD t undef = u at h1
    cases h1 with
    | one v u h => exact VR.not_in hS h
    | agg l vs h => simp [AV.sv, keyIn]
    | tup l vs h => simp [AV.sv, keyIn]
theorem offS_plain {S : List Nat} {v : SV} (h : v.plain = true) : offS S v := by
  cases v <;> first | trivial | (simp [SV.plain] at h)
theorem offSL_plain {S : List Nat} : ∀ {l : List SV}, plainL l = true → offSL S l
  | [], h => trivial
  | v :: l, h => by simp only [plainL, Bool.and_eq_true] at h; exact ⟨offS_plain h.1, offSL_plain h.2⟩
mutual
theorem off_plainA {S : List Nat} : ∀ {v : AV}, v.plain = true → offSL S (avCells v)
  | .one v, h => by simp only [AV.plain] at h; exact ⟨offS_plain h, trivial⟩
  | .agg l, h => by simp only [AV.plain] at h; exact offSL_plain h
  | .tup l, h => by simp only [AV.plain] at h; simp only [avCells]; exact off_plainT h
theorem off_plainT {S : List Nat} : ∀ {l : List AV}, plainT l = true → offSL S (avsCells l)
  | [], h => trivial
  | v :: l, h => by simp only [plainT, Bool.and_eq_true] at h; simp only [avsCells]; exact offSL_append.2 ⟨off_plainA h.1, off_plainT h.2⟩
end
mutual
theorem AVR.off {S : List Nat} (hS : ∀ k ∈ S, Poison ρ k) : ∀ {v : AV} {u : Value}, AVR C n ρ v u → offSL S (avCells v)
  | _, _, .one v u h => ⟨VR.off hS h, trivial⟩
  | _, _, .agg l us h => VRL.off hS h
  | _, _, .tup l us h => by simp only [avCells]; exact AVRL.off hS h
theorem AVRL.off {S : List Nat} (hS : ∀ k ∈ S, Poison ρ k) : ∀ {l : List AV} {us : List Value}, AVRL C n ρ l us → offSL S (avsCells l)
  | _, _, .nil => trivial
  | _, _, .cons v u l us h hl => by simp only [avsCells]; exact offSL_append.2 ⟨AVR.off hS h, AVRL.off hS hl⟩
end
theorem noKeyA_of {S : List Nat} {env : Env} {a : Act} (hS : ∀ k ∈ S, Poison ρ k) (he : EnvR C n ρ env a) : ∀ {l : List AO}, l.all noKeyA = true → offSL S (avsCells (getL env l))
  | [], h => trivial
  | x :: l, h => by
    simp only [List.all_cons, Bool.and_eq_true] at h
    simp only [getL, avsCells]
    refine offSL_append.2 ⟨?_, noKeyA_of hS he h.2⟩
    cases x with
    | tmp t => exact AVR.off hS (he t)
    | const v => exact off_plainA h.1
theorem closed_of {S : List Nat} {hp : List Ob} {w : World} (hS : ∀ k ∈ S, Poison ρ k) (hH : HR C ρ (killAll hp S) w) : closedS hp S := by
  intro k g l hk e
  have := hH.ob k (.cells g l) (by rw [killAll_get hp hk]; exact e)
  obtain ⟨b, T, cur, _, _, _, hv, _⟩ := this
  exact VRL.off hS hv
theorem freeK_of {S : List Nat} {env : Env} {a : Act} {op : AOp} {hp : List Ob} {w : World} (hS : ∀ k ∈ S, Poison ρ k) (h0 : callB op = true → 0 ∉ S) (he : EnvR C n ρ env a) (hH : HR C ρ (killAll hp S) w) (h : freeK op = true) : freeOp env S hp op := by
  cases op <;> simp only [freeK, Bool.and_eq_true, decide_eq_true_eq] at h <;> simp only [freeOp] <;> first | exact h | exact noKey_of hS he h | exact ⟨noKey_of hS he h.1, noKey_of hS he h.2⟩ | exact ⟨noKeyA_of hS he h, closed_of hS hH, h0 rfl⟩
theorem step_kill {S : List Nat} {env : Env} {a : Act} {ai : AI} {hp hp1 : List Ob} {v : AV} {w : World} (hS : ∀ k ∈ S, Poison ρ k) (h0 : callB ai.op = true → 0 ∉ S) (hl : ∀ k ∈ S, k < hp.length) (he : EnvR C n ρ env a) (hH : HR C ρ (killAll hp S) w) (hf : freeK ai.op = true) (h : stepI Γ env hp ai = some (v, hp1)) : stepI Γ env (killAll hp S) ai = some (v, killAll hp1 S) := by
  obtain ⟨dst, g, op⟩ := ai
  cases g with
  | none => exact op_kill hl (freeK_of hS h0 he hH hf) h
  | some g =>
    obtain ⟨t, b⟩ := g
    simp only [stepI] at h ⊢
    unfold stepG at h ⊢
    split at h
    · split at h
      · rename_i hc; simp only [if_pos hc]; exact op_kill hl (freeK_of hS h0 he hH hf) h
      · rename_i hc
        simp at h; obtain ⟨rfl, rfl⟩ := h
        simp only [if_neg hc]
    · simp at h; obtain ⟨rfl, rfl⟩ := h; rfl
    · simp at h
theorem FO.ren_id (c : FO) (f : Nat → Option Nat) : c.ob.ren f = c.ob := by
  cases c with
  | r c => rfl
  | z l =>
    simp only [FO.ob, Ob.ren]
    congr 1
    induction l with
    | nil => rfl
    | cons s l ih => simp only [List.map_cons, renL, ih]; cases s with
      | sc s => cases s <;> rfl
      | nil c => rfl
theorem StR.slot {env : Env} {M : List Ob} {a : Act} {w w' : World} {c : FO} {op : AOp} {u : Value} {dst : Option Nat} (h : StR C ρ n env M a w) (hs : Poison ρ s) (hl : s < M.length) (E : Ext M.length ρ ρ')
    (hv : AVR C (M ++ [c.ob]).length ρ' (.one (fval M.length op)) u) (hH : HR C ρ' (M ++ [c.ob]) w') (hF : FR C w') (hd : cDst n dst = true) :
    StR C (fillR ρ' s (ρ' M.length)) n (putE env dst (.one (fval s op))) (M.set s c.ob) (a.put dst u) w' := by
  have hp' : Poison ρ' s := by unfold Poison at hs ⊢; rw [E s hl]; exact hs
  have e1 : EnvR C M.length (fillR ρ' s (ρ' M.length)) env a := fun t => AVR.fill hp' (fun k hk => fillR_ne hk) ((h.env.ext (Nat.le_refl _) E) t)
  refine ⟨?_, ?_, hF, by rw [put_size]; exact h.size, by rw [put_defers]; exact h.defers⟩
  · rw [List.length_set]
    refine e1.put ?_ dst (fun d e => ?_)
    · cases hv with
      | one _ _ hv =>
        refine .one _ _ ?_
        unfold fval at hv ⊢
        split at hv
        · cases hv with
          | ptr _ _ b hk hh => exact .ptr s 0 b hl (by simp [fillR, hh])
        · cases hv with
          | row _ a0 m cap hk hh => exact .row s a0 m cap hl (by simp [fillR, hh])
    · subst e
      simp [cDst] at hd
      exact Nat.lt_of_lt_of_le hd h.size
  · have := hH.slot (L := M.length) (s := s) (by simp) hl
    rw [slotHp_new (fun f => c.ren_id f) h.heap hs] at this
    exact this
structure DInvF (C : Cx) (n N : Nat) (ops : Array Oper) (ais : List AI) (ld : List Bool) (fs : List (Nat × Nat × FO)) (E0 : Env) (H : Nat → List Ob) (V : Nat → AV) (listed : Array Bool) (a : Act) (w : World) (k : Nat) (ρ : Nat → RV) (Ed : Env) : Prop where
  size : listed.size = N
  le : k ≤ N
  closed : ∀ (i : Nat) (o : Oper), ops[i]? = some o → doneD listed i → ∀ e ∈ dirs o, doneD listed e
  loud : ∀ j, j < N → ld.getD j false = true → (doneD listed j ↔ j < k)
  val : ∀ j d, doneD listed j → dstAt ais j = some d → getT d Ed = V j
  old : ∀ t, (∀ j, doneD listed j → dstAt ais j ≠ some t) → getT t Ed = getT t E0
  st : StR C ρ n Ed (killAll (H k) (pend fs listed)) a w
  poi : ∀ s ∈ pend fs listed, Poison ρ s
  slots : ∀ f ∈ fs, f.2.1 < (H k).length
def Kind (Γ : Nat → Callee) (P : Program) (n N : Nat) (ops : Array Oper) (ais : List AI) (ld : List Bool) (anc : List (List Nat)) (hs : List (List Ob)) (fs : List (Nat × Nat × FO)) (EN : Env) (i : Nat) (o : Oper) : Prop :=
  ∃ ai, ais[i]? = some ai ∧ ∃ ai0, cInstr P n ops o = some ai0 ∧ ai0.dst = ai.dst ∧
    (((∀ f ∈ fs, f.1 ≠ i) ∧ (freeK ai.op = true ∧ (callB ai.op = true → ∀ f ∈ fs, 0 < f.2.1) ∨ ∀ f ∈ fs, f.1 ∈ anc.getD i []) ∧ ∀ (env : Env) (hp hp1 : List Ob) (v : AV), stepI Γ env hp ai = some (v, hp1) → stepI Γ env hp ai0 = some (v, hp1)) ∨
     ∃ s c, (i, s, c) ∈ fs ∧ ai.op = .mv (.const (.one (fval s ai0.op))) ∧ ai.guard = none ∧ ai0.guard = none ∧ (∀ Ed : Env, (∀ t ∈ opT ai0.op, getT t Ed = getT t EN) → ∀ M, evOp Γ Ed M ai0.op = some (.one (fval M.length ai0.op), M ++ [c.ob])) ∧
      (∀ t ∈ opT ai0.op, ∀ j, j < N → dstAt ais j = some t → j < i ∧ j ∈ anc.getD i []) ∧ ∀ k, k ≤ N → offD N ld anc i k = true ∨ (hs.getD (rank ld k) [])[s]? = some c.ob)
theorem draw_anyF {N : Nat} {ops : Array Oper} {ais : List AI} {ld : List Bool} {anc : List (List Nat)} {ck : List (Nat × List Nat)} {fs : List (Nat × Nat × FO)} {E : Nat → Env} {H : Nat → List Ob} {V : Nat → AV} {hs : List (List Ob)} {rts : List SV}
    (hΓ : ∀ f, Sound C.P f (Γ f)) (hN : ops.size = N) (hi : ∀ (i : Nat) (o : Oper), ops[i]? = some o → Kind Γ C.P n N ops ais ld anc hs fs (E N) i o) (fsN0 : ∀ f ∈ fs, f.1 < N) (huf : ∀ f ∈ fs, ∀ g ∈ fs, f.1 = g.1 ∨ f.2.1 = g.2.1 → f = g) (S : Static N ops.toList ais ld anc ck)
    (hstep : ∀ (i : Nat) (ai : AI), ais[i]? = some ai → stepI Γ (E i) (H i) ai = some (V i, H (i + 1)) ∧ E (i + 1) = putE (E i) ai.dst (V i))
    (hrank : ∀ k, k ≤ N → hs.getD (rank ld k) [] = H k)
    (hck : ∀ c ∈ ck, ∀ ai, ais[c.1]? = some ai → ∃ d, ai.dst = some d ∧ ∀ r ∈ c.2, ∃ hp', stepI Γ (E N) (hs.getD r []) ai = some (getT d (E N), hp')) :
    ∀ (fuel : Nat) (listed : Array Bool) (a : Act) (w : World) (k : Nat) (ρ : Nat → RV) (Ed : Env), ((List.range N).filter fun j => !listed.getD j false).length ≤ fuel → DInvF C n N ops ais ld fs (E 0) H V listed a w k ρ Ed →
      wpAny C.P .any ops (QR C n .norm ⟨E N, rts, H N⟩) fuel listed a w := by
  -- ahead: what the order cannot touch
  have un : ∀ i, i < N → ∃ ai, ais[i]? = some ai := fun i h => ⟨_, List.getElem?_eq_getElem (by rw [S.len]; exact h)⟩
  have uo : ∀ i, i < N → ∃ o, ops[i]? = some o := fun i h => ⟨_, Array.getElem?_eq_getElem (by omega)⟩
  have dlt : ∀ j d, dstAt ais j = some d → j < N := by
    intro j d h
    unfold dstAt at h
    obtain ⟨ai, h, _⟩ := bind_some h
    have := (List.getElem?_eq_some_iff.1 h).1
    rw [S.len] at this; exact this
  have uniq : ∀ i j d, dstAt ais i = some d → dstAt ais j = some d → i = j := by
    intro i j d h1 h2
    rcases Nat.lt_trichotomy i j with h | h | h
    · exact absurd h1 (S.dst j i d (dlt _ _ h2) h h2)
    · exact h
    · exact absurd h2 (S.dst i j d (dlt _ _ h1) h h1)
  have dstE : ∀ i ai, ais[i]? = some ai → dstAt ais i = ai.dst := fun i ai h => by simp [dstAt, h]
  have look : ∀ i, i ≤ N → ∀ t, ((∀ j, j < i → dstAt ais j ≠ some t) → getT t (E i) = getT t (E 0)) ∧ (∀ j, j < i → dstAt ais j = some t → getT t (E i) = V j) := by
    intro i
    induction i with
    | zero => intro _ t; exact ⟨fun _ => rfl, fun j hj => by omega⟩
    | succ i ih =>
      intro hle t
      obtain ⟨ai, hai⟩ := un i (by omega)
      rw [(hstep i ai hai).2]
      have hd := dstE i ai hai
      obtain ⟨h1, h2⟩ := ih (by omega) t
      refine ⟨fun h => ?_, fun j hj e => ?_⟩
      · cases e : ai.dst with
        | none => simp only [putE]; exact h1 fun j hj => h j (by omega)
        | some d =>
          simp only [putE, getT]
          rw [if_neg (by rintro rfl; exact h i (by omega) (by rw [hd, e]))]
          exact h1 fun j hj => h j (by omega)
      · by_cases hji : j = i
        · subst hji
          rw [hd] at e; rw [e]; simp [putE, getT]
        · cases e' : ai.dst with
          | none => simp only [putE]; exact h2 j (by omega) e
          | some d =>
            simp only [putE, getT]
            rw [if_neg (by rintro rfl; exact hji (uniq j i t e (by rw [hd, e'])))]
            exact h2 j (by omega) e
  have lookN : ∀ i, i ≤ N → ∀ t, (∀ j, j < N → i ≤ j → dstAt ais j ≠ some t) → getT t (E N) = getT t (E i) := by
    intro i hi t h
    by_cases hex : ∃ j, j < N ∧ dstAt ais j = some t
    · obtain ⟨j, hj, e⟩ := hex
      have hji : j < i := Nat.lt_of_not_le fun h' => h j hj h' e
      rw [(look N (Nat.le_refl _) t).2 j hj e, (look i hi t).2 j hji e]
    · have h' : ∀ j, j < N → dstAt ais j ≠ some t := fun j hj e => hex ⟨j, hj, e⟩
      rw [(look N (Nat.le_refl _) t).1 h', (look i hi t).1 fun j hj => h' j (by omega)]
  have quiet : ∀ i k, k ≤ i → i ≤ N → (∀ j, k ≤ j → j < i → ld.getD j false = false) → H i = H k := by
    intro i k hki
    induction hki with
    | refl => intros; rfl
    | @step m hkm ih =>
      intro hN' hq
      obtain ⟨ai, hai⟩ := un m (by omega)
      have hl := hq m hkm (by omega)
      have hk2 : opKind ai.op ≠ 2 := fun e => by rw [(S.kind m ai hai).2 e] at hl; cases hl
      rw [quiet_step hk2 (hstep m ai hai).1]
      exact ih (by omega) fun j h1 h2 => hq j h1 (by omega)
  have anc_done : ∀ (listed : Array Bool), listed.size = N → (∀ (i : Nat) (o : Oper), ops[i]? = some o → doneD listed i → ∀ e ∈ dirs o, doneD listed e) → ∀ i, doneD listed i → ∀ j ∈ anc.getD i [], doneD listed j := by
    intro listed hsz hcl i
    induction i using Nat.strongRecOn with
    | _ i ih =>
      intro hd j hj
      have hiN : i < N := by
        rcases Nat.lt_or_ge i N with h | h
        · exact h
        · unfold doneD at hd; rw [Array.getD_eq_getD_getElem?, Array.getElem?_eq_none (by omega)] at hd; cases hd
      obtain ⟨o, ho⟩ := uo i hiN
      obtain ⟨h1, h2⟩ := S.edge i hiN o (by simpa using ho)
      rcases h2 j hj with h | ⟨e, he, h⟩
      · exact hcl i o ho hd j h
      · exact ih e (h1 e he) (hcl i o ho hd e he) j h
  have fsN : ∀ f ∈ fs, f.1 < N := fsN0
  -- when all is done
  have fin : ∀ (listed : Array Bool) (a : Act) (w : World) (k : Nat) (ρ : Nat → RV) (Ed : Env), DInvF C n N ops ais ld fs (E 0) H V listed a w k ρ Ed → (∀ j, j < N → doneD listed j) → QR C n .norm ⟨E N, rts, H N⟩ .normal a w := by
    intro listed a w k ρ Ed I hall
    have hH : H N = H k := quiet N k I.le (Nat.le_refl _) fun j h1 h2 => by
      cases hl : ld.getD j false
      · rfl
      · have := (I.loud j h2 hl).1 (hall j h2); omega
    have hst : StR C ρ n Ed (H k) a w := by
      have e : pend fs listed = [] := by
        cases hp : pend fs listed with
        | nil => rfl
        | cons s l =>
          exfalso
          obtain ⟨f, hf, _, h2⟩ := mem_pend.1 (show s ∈ pend fs listed by rw [hp]; simp)
          have hfN : f.1 < N := fsN f hf
          exact h2 (hall _ hfN)
      have := I.st
      rw [e] at this
      exact this
    refine ⟨rfl, ρ, ⟨fun t => ?_, by rw [hH]; exact hst.heap, hst.fr, hst.size, hst.defers⟩⟩
    have hT : getT t (E N) = getT t Ed := by
      by_cases hex : ∃ j, j < N ∧ dstAt ais j = some t
      · obtain ⟨j, hj, e⟩ := hex
        rw [(look N (Nat.le_refl _) t).2 j hj e, I.val j t (hall j hj) e]
      · rw [(look N (Nat.le_refl _) t).1 fun j hj e => hex ⟨j, hj, e⟩, I.old t fun j hd e => hex ⟨j, dlt j t e, e⟩]
    rw [hT, hH]
    exact hst.env t
  have rdy : ∀ (listed : Array Bool), listed.size = N → Region.ready .any ops listed = [] → ∀ j, j < N → doneD listed j := by
    intro listed hsz hr j
    induction j using Nat.strongRecOn with
    | _ j ih =>
      intro hj
      obtain ⟨o, ho⟩ := uo j hj
      cases hd : listed.getD j false with
      | true => exact hd
      | false =>
        exfalso
        have : j ∈ Region.ready .any ops listed := by
          rw [mem_ready]
          refine ⟨?_, o, ho, fun e he hb => ?_⟩
          · rw [Array.getD_eq_getD_getElem?, Array.getElem?_eq_getElem (by omega)] at hd ⊢; exact hd
          · have hlt := (S.edge j hj o (by simpa using ho)).1 e.on (mem_dirs.2 ⟨e, he, hb, rfl⟩)
            exact ih e.on hlt (by omega)
        rw [hr] at this; cases this
  intro fuel
  induction fuel with
  | zero =>
    intro listed a w k ρ Ed hf I
    have hall : ∀ j, j < N → doneD listed j := by
      intro j hj
      cases hd : listed.getD j false with
      | true => exact hd
      | false =>
        have : j ∈ (List.range N).filter fun j => !listed.getD j false := by simp only [List.mem_filter, List.mem_range, hd]; exact ⟨hj, rfl⟩
        have := List.length_pos_of_mem this
        omega
    refine ⟨?_, fin listed a w k ρ Ed I hall⟩
    cases hr : Region.ready .any ops listed with
    | nil => rfl
    | cons x xs =>
      exfalso
      have hx : x ∈ Region.ready .any ops listed := by rw [hr]; simp
      obtain ⟨h0, o, ho, _⟩ := mem_ready.1 hx
      have hxN : x < N := by have := (Array.getElem?_eq_some_iff.1 ho).1; omega
      have := hall x hxN
      unfold doneD at this
      rw [Array.getD_eq_getD_getElem?, Array.getElem?_eq_getElem (by rw [I.size]; exact hxN)] at h0 this
      simp at h0 this; rw [h0] at this; cases this
  | succ fuel ihf =>
    intro listed a w k ρ Ed hf I
    refine ⟨fun hr => fin listed a w k ρ Ed I (rdy listed I.size hr), fun i hir => ?_⟩
    obtain ⟨h0, o, ho, hedges⟩ := mem_ready.1 hir
    have hiN : i < N := by have := (Array.getElem?_eq_some_iff.1 ho).1; omega
    have hnd : ¬ doneD listed i := by
      unfold doneD
      rw [Array.getD_eq_getD_getElem?, Array.getElem?_eq_getElem (by rw [I.size]; exact hiN)] at h0 ⊢
      simp at h0 ⊢; exact h0
    obtain ⟨ai, hai, ai0, hci, hd0, hkd⟩ := hi i o ho
    have hdirs : ∀ e ∈ dirs o, doneD listed e := fun e he => by
      obtain ⟨x, h1, h2, rfl⟩ := mem_dirs.1 he
      exact hedges x h1 h2
    have hanc : ∀ j ∈ anc.getD i [], doneD listed j := fun j hj => by
      rcases (S.edge i hiN o (by simpa using ho)).2 j hj with h | ⟨e, he, h⟩
      · exact hdirs j h
      · exact anc_done listed I.size I.closed e (hdirs e he) j h
    have hback : ∀ j, doneD listed j → i ∈ anc.getD j [] → False := fun j hd hj => hnd (anc_done listed I.size I.closed j hd i hj)
    -- what the operation looks at is what it was in the text's order
    have look_i : ∀ t ∈ aiT ai, getT t Ed = getT t (E i) := by
      intro t ht
      by_cases hex : ∃ j, j < N ∧ dstAt ais j = some t
      · obtain ⟨j, hj, e⟩ := hex
        have old : ¬ doneD listed j → i ≤ j → getT t Ed = getT t (E i) := fun hd hle => by
          rw [I.old t fun j' hd' e' => hd (uniq j' j t e' e ▸ hd'), (look i (by omega) t).1 fun j' hj' e' => by have := uniq j' j t e' e; omega]
        rcases S.tmp i ai hai t ht j hj e with h | ⟨h1, h2⟩ | ⟨h1, h2⟩
        · exact old (h ▸ hnd) (by omega)
        · rw [I.val j t (hanc j h2) e, (look i (by omega) t).2 j h1 e]
        · exact old (fun hd => hback j hd h2) (by omega)
      · rw [I.old t fun j hd e => hex ⟨j, dlt j t e, e⟩, (look i (by omega) t).1 fun j hj e => hex ⟨j, by omega, e⟩]
    obtain ⟨hs1, hs2⟩ := hstep i ai hai
    -- what it comes to
    have run : ∃ k', k' ≤ N ∧ stepI Γ Ed (H k) ai = some (V i, H k') ∧ (∀ j, j < N → ld.getD j false = true → (doneD listed j ∨ j = i ↔ j < k')) ∧ (opKind ai.op ≠ 2 → k' = k) := by
      have hcong : ∀ h, stepI Γ Ed h ai = stepI Γ (E i) h ai := fun h => step_congr look_i h
      have hkind := S.kind i ai hai
      by_cases h2 : opKind ai.op = 2
      · have hl := hkind.2 h2
        have hki : k ≤ i := Nat.le_of_not_lt fun h => hnd ((I.loud i hiN hl).2 h)
        have hH : H i = H k := quiet i k hki (by omega) fun j h1 h3 => by
          cases e : ld.getD j false
          · rfl
          · have := (I.loud j (by omega) e).1 (hanc j (S.loud i j hiN h3 hl e)); omega
        refine ⟨i + 1, hiN, by rw [hcong, ← hH]; exact hs1, fun j hj e => ⟨?_, fun hj' => ?_⟩, fun h => absurd h2 h⟩
        · rintro (h | h)
          · have := (I.loud j hj e).1 h; omega
          · omega
        · by_cases hji : j = i
          · exact .inr hji
          · exact .inl (hanc j (S.loud i j hiN (by omega) hl e))
      · have hl : ld.getD i false = false := by
          cases e : ld.getD i false
          · rfl
          · exact absurd (hkind.1 e) h2
        refine ⟨k, I.le, ?_, fun j hj e => ?_, fun _ => rfl⟩
        · rw [hcong]
          by_cases h3 : opKind ai.op = 0
          · exact (pure_step h3 hs1).2 _
          · have h1 : opKind ai.op = 1 := by
              have : opKind ai.op ≤ 2 := by
                unfold opKind; split <;> first | omega | skip
                all_goals (split <;> omega)
              omega
            obtain ⟨hr, hr2⟩ := S.read i ai hai h1
            rcases hr k I.le with h | h | ⟨c, hc, hci', hck'⟩
            · exfalso
              simp only [offD, Bool.or_eq_true, List.any_eq_true, Bool.and_eq_true, decide_eq_true_eq, List.mem_range] at h
              rcases h with ⟨j, hj, hlj, hkj⟩ | ⟨j, hj, ⟨hlj, hkj⟩, hij⟩
              · have hjd := hanc j hj
                have hjN : j < N := by
                  rcases Nat.lt_or_ge j N with h | h
                  · exact h
                  · unfold doneD at hjd; rw [Array.getD_eq_getD_getElem?, Array.getElem?_eq_none (by rw [I.size]; omega)] at hjd; cases hjd
                have := (I.loud j hjN hlj).1 hjd
                omega
              · exact hback j ((I.loud j hj hlj).2 hkj) (by simpa using hij)
            · have hH : H k = H i := by rw [← hrank k I.le, ← hrank i (by omega), h]
              have hq : H (i + 1) = H i := quiet_step h2 hs1
              rw [hH]; rw [hq] at hs1; exact hs1
            · obtain ⟨d, hd, hrun⟩ := hck c hc ai (by rw [hci']; exact hai)
              obtain ⟨hp4, h4⟩ := hrun _ hck'
              rw [hrank k I.le] at h4
              obtain rfl := quiet_step h2 h4
              rw [step_congr (env' := E i) fun t ht => lookN i (by omega) t fun j hj hij => hr2 ⟨c, hc, hci'⟩ t ht j hj hij] at h4
              rw [h4, (look N (Nat.le_refl _) d).2 i hiN (by rw [dstE i ai hai, hd])]
        · constructor
          · rintro (h | h)
            · exact (I.loud j hj e).1 h
            · subst h; rw [hl] at e; cases e
          · intro h; exact .inl ((I.loud j hj e).2 h)
    obtain ⟨k', hk', hrun, hloud, hkk⟩ := run
    obtain ⟨hdc, hdst0, _, _⟩ := instr_inv hci
    have hdst : ai.dst = o.dst := by rw [← hd0]; exact hdst0
    have hsz : i < listed.size := by rw [I.size]; exact hiN
    have cont : ∀ (ρ' : Nat → RV) (u : Value) (w' : World), StR C ρ' n (putE Ed o.dst (V i)) (killAll (H k') (pend fs (listed.setIfInBounds i true))) (a.put o.dst u) w' → (∀ s ∈ pend fs (listed.setIfInBounds i true), Poison ρ' s) → (H k).length ≤ (H k').length → wpAny C.P .any ops (QR C n .norm ⟨E N, rts, H N⟩) fuel (listed.setIfInBounds i true) (a.put o.dst u) w' := fun ρ' u w' hst' hpo' hlen' => by
      refine ihf _ _ _ k' ρ' (putE Ed o.dst (V i)) ?_ ⟨by simp [I.size], hk', fun j o' ho' hd e he => ?_, fun j hj e => ?_, fun j d hd e => ?_, fun t ht => ?_, hst', hpo', fun f hf => Nat.lt_of_lt_of_le (I.slots f hf) hlen'⟩
      · have : ((List.range N).filter fun j => !(listed.setIfInBounds i true).getD j false).length < ((List.range N).filter fun j => !listed.getD j false).length := by
          refine filter_lt (i := i) (fun x hx => ?_) (List.mem_range.2 hiN) ?_ ?_
          · simp only [Bool.not_eq_true'] at hx ⊢
            cases e : listed.getD x false
            · rfl
            · rw [getD_set_true e] at hx; cases hx
          · simp only [Bool.not_eq_true']
            cases e : listed.getD i false
            · rfl
            · exact absurd e hnd
          · simp only [Bool.not_eq_false']
            exact (done_set hsz).2 (.inr rfl)
        omega
      · rw [done_set hsz] at hd ⊢
        rcases hd with hd | rfl
        · exact .inl (I.closed j o' ho' hd e he)
        · rw [ho] at ho'; simp at ho'; subst ho'
          exact .inl (hdirs e he)
      · rw [done_set hsz]; exact hloud j hj e
      · rw [done_set hsz] at hd
        have hdi := dstE i ai hai
        by_cases hji : j = i
        · subst hji
          rw [hdi, hdst] at e
          rw [e]; simp [putE, getT]
        · have hd' : doneD listed j := hd.resolve_right hji
          cases e' : o.dst with
          | none => simp only [putE]; exact I.val j d hd' e
          | some d' =>
            simp only [putE, getT]
            rw [if_neg (by rintro rfl; exact hji (uniq j i d e (by rw [hdi, hdst, e'])))]
            exact I.val j d hd' e
      · have hdi := dstE i ai hai
        cases e' : o.dst with
        | none => simp only [putE]; exact I.old t fun j hd => ht j ((done_set hsz).2 (.inl hd))
        | some d' =>
          simp only [putE, getT]
          rw [if_neg (by rintro rfl; exact ht i ((done_set hsz).2 (.inr rfl)) (by rw [hdi, hdst, e']))]
          exact I.old t fun j hd => ht j ((done_set hsz).2 (.inl hd))
    have pend_sub : ∀ s, s ∈ pend fs (listed.setIfInBounds i true) ↔ ∃ f ∈ fs, f.2.1 = s ∧ ¬ doneD listed f.1 ∧ f.1 ≠ i := fun s => by
      rw [mem_pend]
      constructor
      · rintro ⟨f, h1, h2, h3⟩
        rw [done_set hsz] at h3
        exact ⟨f, h1, h2, fun h => h3 (.inl h), fun h => h3 (.inr h)⟩
      · rintro ⟨f, h1, h2, h3, h4⟩
        refine ⟨f, h1, h2, ?_⟩
        rw [done_set hsz]
        rintro (h | h)
        · exact h3 h
        · exact h4 h
    have plt : ∀ s ∈ pend fs listed, s < (H k).length := fun s hs => by
      obtain ⟨f, hf, rfl, _⟩ := mem_pend.1 hs
      exact I.slots f hf
    have key : if Region.wanted o (yielded ops a.tmps) = true then o.wp C.P a w (wpAny C.P .any ops (QR C n .norm ⟨E N, rts, H N⟩) fuel (listed.setIfInBounds i true)) (QR C n .norm ⟨E N, rts, H N⟩) else wpAny C.P .any ops (QR C n .norm ⟨E N, rts, H N⟩) fuel (listed.setIfInBounds i true) (a.put o.dst undef) w := by
      rcases hkd with ⟨hnf, hfree, href⟩ | ⟨s, c, hmem, hop, hgd, hgd0, hev, htmp, hslot⟩
      · have epend : pend fs (listed.setIfInBounds i true) = pend fs listed := by
          unfold pend
          congr 1
          refine List.filter_congr fun f hf => ?_
          congr 1
          exact getD_set_ne false (Ne.symm (hnf f hf))
        rw [epend] at cont
        have hmask : stepI Γ Ed (killAll (H k) (pend fs listed)) ai = some (V i, killAll (H k') (pend fs listed)) := by
          rcases hfree with ⟨hf, hf0⟩ | hf
          · refine step_kill I.poi (fun hcb h0 => ?_) plt I.st.env I.st.heap hf hrun
            obtain ⟨f, f1, f2, _⟩ := mem_pend.1 h0
            have := hf0 hcb f f1
            omega
          · have e : pend fs listed = [] := by
              cases hp : pend fs listed with
              | nil => rfl
              | cons x l =>
                exfalso
                obtain ⟨f, hff, _, h2⟩ := mem_pend.1 (show x ∈ pend fs listed by rw [hp]; simp)
                exact h2 (hanc _ (hf f hff))
            rw [e]; exact hrun
        refine step_ok hΓ hci I.st (href _ _ _ _ hmask) (fun ρ' u w' h1 h2 h3 h4 h5 => ?_)
        refine cont ρ' u w' (I.st.next h1 h2 h3 h4 h5 hdc) (fun s hs => ?_) (by simpa [killAll_length] using h1)
        have := I.poi s hs
        unfold Poison at this ⊢
        rw [h2 s (by rw [killAll_length]; exact plt s hs)]; exact this
      · have hs : s ∈ pend fs listed := mem_pend.2 ⟨_, hmem, rfl, hnd⟩
        have hsl := plt s hs
        have hVi : V i = .one (fval s ai0.op) := by
          obtain ⟨dst, g, op⟩ := ai
          simp only at hop hgd
          subst hop hgd
          simp only [stepI, evOp, getO, Option.some.injEq, Prod.mk.injEq] at hs1
          exact hs1.1.symm
        obtain rfl := hkk (by rw [hop]; simp [opKind])
        have hstep0 : stepI Γ Ed (killAll (H k') (pend fs listed)) ai0 = some (.one (fval (killAll (H k') (pend fs listed)).length ai0.op), killAll (H k') (pend fs listed) ++ [c.ob]) := by
          obtain ⟨dst0, g0, op0⟩ := ai0
          simp only at hgd0
          subst hgd0
          simp only [stepI]
          refine hev Ed (fun t ht => ?_) _
          by_cases hex : ∃ j, j < N ∧ dstAt ais j = some t
          · obtain ⟨j, hj, e⟩ := hex
            rw [I.val j t (hanc j (htmp t ht j hj e).2) e, (look N (Nat.le_refl _) t).2 j hj e]
          · rw [I.old t fun j hd e => hex ⟨j, dlt j t e, e⟩, (look N (Nat.le_refl _) t).1 fun j hj e => hex ⟨j, by omega, e⟩]
        have hHs : (H k')[s]? = some c.ob := by
          rcases hslot k' I.le with h | h
          · exfalso
            simp only [offD, Bool.or_eq_true, List.any_eq_true, Bool.and_eq_true, decide_eq_true_eq, List.mem_range] at h
            rcases h with ⟨j, hj, hlj, hkj⟩ | ⟨j, hj, ⟨hlj, hkj⟩, hij⟩
            · have hjd := hanc j hj
              have hjN : j < N := by
                rcases Nat.lt_or_ge j N with h | h
                · exact h
                · unfold doneD at hjd; rw [Array.getD_eq_getD_getElem?, Array.getElem?_eq_none (by rw [I.size]; omega)] at hjd; cases hjd
              have := (I.loud j hjN hlj).1 hjd
              omega
            · exact hback j ((I.loud j hj hlj).2 hkj) (by simpa using hij)
          · rw [hrank k' I.le] at h; exact h
        refine step_ok hΓ hci I.st hstep0 (fun ρ' u w' h1 h2 h3 h4 h5 => ?_)
        have hsm : s < (killAll (H k') (pend fs listed)).length := by rw [killAll_length]; exact hsl
        have hpend : ∀ x, x ∈ pend fs (listed.setIfInBounds i true) ↔ x ∈ pend fs listed ∧ x ≠ s := fun x => by
          rw [pend_sub, mem_pend]
          constructor
          · rintro ⟨f, f1, rfl, f3, f4⟩
            refine ⟨⟨f, f1, rfl, f3⟩, fun e => f4 ?_⟩
            rw [huf f f1 _ hmem (.inr e)]
          · rintro ⟨⟨f, f1, rfl, f3⟩, hne⟩
            refine ⟨f, f1, rfl, f3, fun e => hne ?_⟩
            rw [huf f f1 _ hmem (.inl e)]
        have hset : (killAll (H k') (pend fs listed)).set s c.ob = killAll (H k') (pend fs (listed.setIfInBounds i true)) := by
          apply List.ext_getElem?
          intro x
          rw [List.getElem?_set]
          by_cases e : s = x
          · subst e
            have : ¬ s ∈ pend fs (listed.setIfInBounds i true) := fun h => ((hpend s).1 h).2 rfl
            rw [if_pos rfl, if_pos hsm, killAll_at, if_neg (fun h => this h.1), hHs]
          · rw [if_neg e, killAll_at, killAll_at]
            have : x ∈ pend fs (listed.setIfInBounds i true) ↔ x ∈ pend fs listed := by
              rw [hpend]; exact ⟨fun h => h.1, fun h => ⟨h, Ne.symm e⟩⟩
            simp [this]
        have hst' := StR.slot (s := s) I.st (I.poi s hs) hsm h2 h3 h4 h5 hdc
        rw [hset] at hst'
        refine cont _ u w' (by rw [hVi]; exact hst') (fun x hx => ?_) (Nat.le_refl _)
        obtain ⟨hx1, hx2⟩ := (hpend x).1 hx
        have := I.poi x hx1
        unfold Poison at this ⊢
        rw [fillR_ne hx2, h2 x (by rw [killAll_length]; exact plt x hx1)]; exact this
    unfold wpOp
    rw [ho]
    simp only
    split
    · rename_i hw; rw [if_pos hw] at key; exact .inl key
    · rename_i hw; rw [if_neg hw] at key; exact key
theorem StR.deads {env : Env} {hp : List Ob} {a : Act} {w : World} (m : Nat) (h : StR C ρ n env hp a w) : StR C (fun k => if k < hp.length then ρ k else ⟨.bool false, 0⟩) n env (hp ++ List.replicate m .dead) a w := by
  have E : Ext hp.length ρ (fun k => if k < hp.length then ρ k else ⟨.bool false, 0⟩) := fun k hk => by simp [hk]
  have key : ∀ k o, (hp ++ List.replicate m Ob.dead)[k]? = some o → o ≠ .dead → k < hp.length ∧ hp[k]? = some o := by
    intro k o ho hd
    rcases Nat.lt_or_ge k hp.length with hk | hk
    · rw [List.getElem?_append_left hk] at ho; exact ⟨hk, ho⟩
    · rw [List.getElem?_append_right hk, List.getElem?_replicate] at ho
      split at ho
      · simp at ho; exact absurd ho.symm hd
      · cases ho
  refine ⟨by rw [List.length_append]; exact h.env.ext (Nat.le_add_right _ _) E, ⟨fun k o ho => ?_, fun j k b hjk hj hk hb => ?_⟩, h.fr, h.size, h.defers⟩
  · by_cases hd : o = .dead
    · subst hd; trivial
    · obtain ⟨hk, ho'⟩ := key k o ho hd
      rw [List.length_append]
      exact (h.heap.ob k o ho').ext (Nat.le_add_right _ _) E hk
  · obtain ⟨oj, h1, h2⟩ := hj
    obtain ⟨ok, h3, h4⟩ := hk
    obtain ⟨j1, j2⟩ := key j oj h1 h2
    obtain ⟨k1, k2⟩ := key k ok h3 h4
    rw [if_pos j1] at hb
    rw [if_pos k1]
    exact h.heap.ne j k b hjk ⟨oj, j2, h2⟩ ⟨ok, k2, h4⟩ hb
theorem ckFs_get {l : List (AI × Bool × Option Nat)} {env : Env} {hs : List (List Ob)} : ∀ {cf : List (Nat × List Nat)} {cs : List FO} {s : Nat}, ckFs Γ l env hs s cs cf = true → cs.length = cf.length ∧ ∀ j i rs, cf[j]? = some (i, rs) → ∃ c, cs[j]? = some c ∧ ckF1 Γ env c l[i]? = true ∧ ∀ r ∈ rs, (hs.getD r [])[s + j]? = some c.ob
  | [], [], _, _ => ⟨rfl, by simp⟩
  | [], _ :: _, _, h => by simp [ckFs] at h
  | _ :: _, [], _, h => by simp [ckFs] at h
  | (i0, rs0) :: cf, c0 :: cs, s, h => by
    simp only [ckFs, Bool.and_eq_true] at h
    obtain ⟨h1, h2, h3⟩ := h
    obtain ⟨h4, h5⟩ := ckFs_get h3
    refine ⟨by simp [h4], fun j i rs hj => ?_⟩
    cases j with
    | zero =>
      simp at hj; obtain ⟨rfl, rfl⟩ := hj
      refine ⟨c0, rfl, h1, ?_⟩
      have : ∀ rs : List Nat, ckSl hs s c0 rs = true → ∀ r ∈ rs, (hs.getD r [])[s]? = some c0.ob := by
        intro rs
        induction rs with
        | nil => simp
        | cons r rs ih =>
          intro h r' hr
          simp only [ckSl, Bool.and_eq_true] at h
          rcases List.mem_cons.1 hr with e | e
          · subst e
            have h1 := h.1
            unfold obIs at h1
            split at h1
            · rename_i d hd; rw [hd]; simp [rcIs] at h1; rw [← h1]; rfl
            · rename_i l hd
              rw [hd]
              unfold zO at h1
              split at h1
              · rename_i m hm; simp [rcIs] at h1; rw [← h1, fvsOf_inv hm]; rfl
              · simp [rcIs] at h1
            · cases h1
          · exact ih h.2 r' e
      simpa using this _ h2
    | succ j =>
      obtain ⟨c, e1, e2, e3⟩ := h5 j i rs (by simpa using hj)
      refine ⟨c, by simpa using e1, e2, fun r hr => ?_⟩
      have := e3 r hr
      rw [show s + (j + 1) = s + 1 + j by omega]; exact this
theorem rowsOf_get : ∀ {cs : List FO} (j : Nat), (rowsOf cs)[j]? = (cs[j]?).map FO.ob
  | [], j => by simp [rowsOf]
  | c :: cs, 0 => by simp [rowsOf]
  | c :: cs, j + 1 => by simpa [rowsOf] using rowsOf_get (cs := cs) j
theorem rowsOf_length : ∀ cs : List FO, (rowsOf cs).length = cs.length
  | [] => rfl
  | c :: cs => by simp [rowsOf, rowsOf_length cs]
theorem Static.turn {N : Nat} {os : List Oper} {ais ais2 : List AI} {ld : List Bool} {anc : List (List Nat)} {ck : List (Nat × List Nat)} (S : Static N os ais ld anc ck) (hl : ais2.length = ais.length)
    (h : ∀ (i : Nat) (a : AI), ais2[i]? = some a → ∃ a1, ais[i]? = some a1 ∧ a1.dst = a.dst ∧ opKind a1.op = opKind a.op ∧ aiT a1 = aiT a) : Static N os ais2 ld anc ck := by
  have hd : ∀ i, dstAt ais2 i = dstAt ais i := by
    intro i
    unfold dstAt
    cases e : ais2[i]? with
    | none =>
      have : ais[i]? = none := by rw [List.getElem?_eq_none_iff] at e ⊢; omega
      rw [this]
    | some a =>
      obtain ⟨a1, h1, h2, _⟩ := h i a e
      rw [h1]; exact h2.symm
  refine ⟨by rw [hl]; exact S.len, S.llen, S.edge, fun i a hi => ?_, S.loud, fun i j d h1 h2 h3 => ?_, fun i a hi t ht j hj e => ?_, fun i a hi hk => ?_⟩
  · obtain ⟨a1, h1, h2, h3, h4⟩ := h i a hi
    rw [← h3]; exact S.kind i a1 h1
  · rw [hd] at h3 ⊢; exact S.dst i j d h1 h2 h3
  · obtain ⟨a1, h1, h2, h3, h4⟩ := h i a hi
    rw [hd] at e
    exact S.tmp i a1 h1 t (by rw [h4]; exact ht) j hj e
  · obtain ⟨a1, h1, h2, h3, h4⟩ := h i a hi
    obtain ⟨r1, r2⟩ := S.read i a1 h1 (by rw [h3]; exact hk)
    refine ⟨r1, fun hc t ht j hj hij => ?_⟩
    rw [hd]
    exact r2 hc t (by rw [h4]; exact ht) j hj hij
theorem drawG_ok0 {id : Nat} {ops : Array Oper} {ais : List AI} {L : List (AI × Bool × Option Nat)} {anc : List (List Nat)} {ld : List Bool} {ck cf : List (Nat × List Nat)} {st st' : St} {ex : Ex} {ρ : Nat → RV} {a : Act} {w : World} (hΓ : ∀ f, Sound C.P f (Γ f)) (hm : C.P.follows .mixedOrders = true) (hL : L.map (·.1) = ais)
    (hi : ∀ (i : Nat) (o : Oper), ops[i]? = some o → ∃ ai, ais[i]? = some ai ∧ ∃ ai0, cInstr C.P n ops o = some ai0 ∧ ai0.dst = ai.dst ∧ (∀ (env : Env) (hp hp1 : List Ob) (v : AV), stepI Γ env hp ai = some (v, hp1) → stepI Γ env hp ai0 = some (v, hp1)) ∧ (isF ai.op = true → ai0 = ai)) (hok : okD ops.toList.length ops.toList ((L.map (repl1 0)).map (·.1)) ld anc ck = true) (hld : (L.map (repl1 0)).map (·.2) = ld) (hokF : okF ops.toList.length ais L ld anc cf = true)
    (hst : StR C ρ n st.env st.hp a w) (h : normC (secP Γ L ck cf st.env st.rts st.hp) = some (ex, st')) : (Code.region id ops true).wp C.P (QR C n ex st') a w := by
  have S0 := static_of hok
  have hN : ops.toList.length = ops.size := by simp
  rw [hN] at S0 hokF
  unfold secP at h
  unfold normC at h
  split at h
  · simp at h
  · rename_i st1 hs1
    simp at h; obtain ⟨rfl, rfl⟩ := h
    unfold secF at hs1
    split at hs1
    · simp at hs1
    · rename_i cs hcs
      by_cases hbare : bareB st.hp L = true
      · rw [if_pos hbare] at hs1; cases hs1
      rw [if_neg hbare] at hs1
      have hcall : ∀ x ∈ L, callB x.1.op = true → 0 < st.hp.length := by
        intro x hx hcb
        unfold bareB at hbare
        simp only [Bool.and_eq_true, List.any_eq_true, not_and, not_exists] at hbare
        rcases Nat.eq_zero_or_pos st.hp.length with h0 | h0
        · exact absurd hcb (fun hcb => hbare (by rw [List.isEmpty_iff]; exact List.length_eq_zero_iff.1 h0) x hx hcb)
        · exact h0
      unfold finD at hs1
      split at hs1
      · simp at hs1
      · rename_i envN hpN hsN hev0
        unfold finF at hev0
        split at hev0
        · simp at hev0
        · rename_i envN' hpN' hsN' hev
          split at hev0
          · rename_i hckF
            simp at hev0
            obtain ⟨rfl, rfl, rfl⟩ := hev0
            split at hs1
            · rename_i hck
              simp at hs1; subst hs1
              generalize hn0 : st.hp.length = n0 at hev hck hckF
              obtain ⟨hlen, hcsf⟩ := ckFs_get hckF
              -- the replaced list
              have rep2 : ∀ x : AI × Bool × Option Nat, (repl1 n0 x).2 = (repl1 0 x).2 := fun x => by obtain ⟨ai, b, m⟩ := x; cases m <;> rfl
              have hmap : (L.map (repl1 n0)).map (·.2) = ld := by
                rw [← hld, List.map_map, List.map_map]
                exact List.map_congr_left fun x _ => rep2 x
              have g2 : ∀ i, ((L.map (repl1 n0)).map (·.1))[i]? = (L[i]?).map fun x => (repl1 n0 x).1 := fun i => by rw [List.map_map, List.getElem?_map]; rfl
              have S : Static ops.size ops.toList ((L.map (repl1 n0)).map (·.1)) ld anc ck := by
                refine S0.turn (by simp) fun i x hx => ?_
                rw [g2] at hx
                obtain ⟨y, hy, rfl⟩ := Option.map_eq_some_iff.1 hx
                refine ⟨(repl1 0 y).1, by simp [hy], ?_⟩
                obtain ⟨ai, b, m⟩ := y
                cases m <;> exact ⟨rfl, rfl, rfl⟩
              have hLlen : L.length = ops.size := by have := S.len; simpa using this
              obtain ⟨E, H, V, e1, e2, e3, e4, e5, e6⟩ := trace_of _ _ _ _ _ _ _ hev (fun p hp hb => by
                obtain ⟨i, hi'⟩ := List.getElem?_of_mem hp
                intro e
                have h1 : ((L.map (repl1 n0)).map (·.1))[i]? = some p.1 := by rw [List.getElem?_map, hi']; rfl
                have h2 : ld[i]? = some p.2 := by rw [← hmap, List.getElem?_map, hi']; rfl
                have := (S.kind i p.1 h1).2 e
                simp [List.getD, h2, hb] at this) ⟨[], rfl⟩
              have hzl : (L.map (repl1 n0)).length = ops.size := by simp [hLlen]
              rw [hzl] at e3 e4 e6
              rw [hmap] at e6
              subst e3 e4
              refine wp_region_any hm ?_
              simp only [okF, Bool.and_eq_true, List.all_eq_true, List.mem_range] at hokF
              obtain ⟨hF1, hF2⟩ := hokF
              -- the new rows
              have hfs : ∀ f, f ∈ (List.range cf.length).map (fun j => ((cf.getD j (0, [])).1, n0 + j, cs.getD j (.r (.ints .u8 [])))) → ∃ j i rs c, cf[j]? = some (i, rs) ∧ cs[j]? = some c ∧ f = (i, n0 + j, c) ∧ (∃ ai b, L[i]? = some (ai, b, some j)) := by
                intro f hf
                obtain ⟨j, hj, rfl⟩ := List.mem_map.1 hf
                rw [List.mem_range] at hj
                have h2 := hF2 j hj
                unfold okF2 at h2
                have hcj : cf[j]? = some cf[j] := List.getElem?_eq_getElem hj
                rw [hcj] at h2
                obtain ⟨c, hc, _, _⟩ := hcsf j cf[j].1 cf[j].2 hcj
                refine ⟨j, cf[j].1, cf[j].2, c, hcj, hc, by simp [List.getD, hcj, hc], ?_⟩
                simp only at h2
                split at h2
                · rename_i ai b x hx
                  simp at h2; subst h2
                  exact ⟨ai, b, hx⟩
                · cases h2
              refine draw_anyF (fs := (List.range cf.length).map (fun j => ((cf.getD j (0, [])).1, n0 + j, cs.getD j (.r (.ints .u8 []))))) (hs := hsN') (anc := anc) (ck := ck) (V := V) hΓ rfl (fun i o ho => ?_) (fun f hf => ?_) (fun f hf g hg hfg => ?_) S (fun i ai hai => ?_) (fun k hk => ?_) (fun c hc ai hai => ?_) ops.size _ a _ 0 (fun k => if k < st.hp.length then ρ k else ⟨.bool false, 0⟩) st.env ?_ ?_
              · obtain ⟨ai, hai, ai0, hci, hd0, href, hisF⟩ := hi i o ho
                have hiN : i < ops.size := (Array.getElem?_eq_some_iff.1 ho).1
                obtain ⟨b, m, hLi⟩ : ∃ b m, L[i]? = some (ai, b, m) := by
                  rw [← hL, List.getElem?_map] at hai
                  obtain ⟨⟨x, b, m⟩, hx, rfl⟩ := Option.map_eq_some_iff.1 hai
                  exact ⟨b, m, hx⟩
                have hf1 := hF1 i hiN
                rw [hLi] at hf1
                cases m with
                | none =>
                  refine ⟨ai, by rw [g2, hLi]; rfl, ai0, hci, hd0, .inl ⟨fun f hf e => ?_, ?_, href⟩⟩
                  · obtain ⟨j, i', rs, c, _, _, rfl, ⟨ai', b', hx⟩⟩ := hfs f hf
                    simp only at e; subst e
                    rw [hLi] at hx; simp at hx
                  · simp only [okF1, Bool.or_eq_true, List.all_eq_true] at hf1
                    rcases hf1 with h | h
                    · refine .inl ⟨h, fun hcb f hf => ?_⟩
                      obtain ⟨j, i', rs, c, _, _, rfl, _⟩ := hfs f hf
                      have := hcall _ (List.mem_of_getElem? hLi) hcb
                      simp only; omega
                    · refine .inr fun f hf => ?_
                      obtain ⟨j, i', rs, c, hcf, _, rfl, _⟩ := hfs f hf
                      simpa using h (i', rs) (List.mem_of_getElem? hcf)
                | some j =>
                  simp only [okF1, Bool.and_eq_true, beq_iff_eq, List.all_eq_true, List.mem_range, Bool.or_eq_true, Bool.not_eq_true', beq_eq_false_iff_ne, decide_eq_true_eq] at hf1
                  obtain ⟨⟨⟨⟨hg, hF⟩, hdst⟩, htmp⟩, hcj⟩ := hf1
                  obtain rfl := hisF hF
                  split at hcj
                  · rename_i c1 hc1
                    obtain ⟨i1, rs⟩ := c1
                    simp only [Bool.and_eq_true, beq_iff_eq, List.all_eq_true, List.mem_range, Bool.or_eq_true] at hcj
                    obtain ⟨rfl, hrk⟩ := hcj
                    obtain ⟨c, hcs', hck1, hsl⟩ := hcsf j i1 rs hc1
                    refine ⟨⟨ai0.dst, none, .mv (.const (.one (fval (n0 + j) ai0.op)))⟩, by rw [g2, hLi]; rfl, ai0, hci, rfl, .inr ⟨n0 + j, c, ?_, rfl, rfl, hg, fun Ed hEd M => ?_, fun t ht x hx e => ?_, fun k hk => ?_⟩⟩
                    · refine List.mem_map.2 ⟨j, List.mem_range.2 (List.getElem?_eq_some_iff.1 hc1).1, ?_⟩
                      simp [List.getD, hc1, hcs']
                    · refine F_op hF ?_ M
                      rw [hLi] at hck1
                      simp only [ckF1] at hck1
                      rw [evOp_congr hEd]
                      unfold rcIs at hck1
                      split at hck1
                      · rename_i d hd; rw [hd]; simp at hck1; rw [hck1]
                      · cases hck1
                    · have e' : dstAt ais x = some t := by
                        rw [← e]
                        unfold dstAt
                        rw [g2, ← hL, List.getElem?_map]
                        cases hx2 : L[x]? with
                        | none => rfl
                        | some y => obtain ⟨y1, y2, y3⟩ := y; cases y3 <;> rfl
                      rcases htmp t ht x hx with h | h
                      · exact absurd e' h
                      · exact ⟨h.1, by simpa using h.2⟩
                    · rcases hrk k (by omega) with h | h
                      · exact .inl h
                      · exact .inr (hsl _ (by simpa using h))
                  · cases hcj
              · obtain ⟨j, i', rs, c, _, _, rfl, ⟨ai', b', hx⟩⟩ := hfs f hf
                have := (List.getElem?_eq_some_iff.1 hx).1
                simp only; omega
              · obtain ⟨j, i', rs, c, h1, h2, rfl, ⟨ai', b', hx⟩⟩ := hfs f hf
                obtain ⟨j2, i2, rs2, c2, h3, h4, rfl, ⟨ai2, b2, hx2⟩⟩ := hfs g hg
                have ej : j = j2 := by
                  rcases hfg with e | e
                  · simp only at e; subst e
                    rw [hx] at hx2; simp at hx2; exact hx2.2.2
                  · simp only at e; omega
                subst ej
                rw [h1] at h3; rw [h2] at h4
                simp at h3 h4
                rw [h3.1, h4]
              · have : (L.map (repl1 n0))[i]? = some (ai, ld.getD i false) := by
                  rw [List.getElem?_map] at hai
                  obtain ⟨p, hp, rfl⟩ := Option.map_eq_some_iff.1 hai
                  rw [hp]
                  have h2 : ld[i]? = some p.2 := by rw [← hmap, List.getElem?_map, hp]; rfl
                  simp [List.getD, h2]
                exact e5 i _ this
              · have := e6 k hk
                simp at this
                simp [List.getD, this]
              · have := ckAll_mem hck c hc
                rw [List.getElem?_map] at hai
                obtain ⟨p, hp, rfl⟩ := Option.map_eq_some_iff.1 hai
                rw [hp] at this
                obtain ⟨⟨dst, g, op⟩, bb⟩ := p
                cases dst with
                | none => cases this
                | some d => exact ⟨d, rfl, fun r hr => ckKs_mem this r hr⟩
              · exact Nat.le_trans (List.length_filter_le _ _) (by simp)
              · have hno : ∀ j, ¬ doneD (Array.replicate ops.size false) j := by
                  intro j h
                  unfold doneD at h
                  rw [Array.getD_eq_getD_getElem?, Array.getElem?_replicate] at h
                  split at h <;> simp at h
                have hpend : ∀ s, s ∈ pend ((List.range cf.length).map (fun j => ((cf.getD j (0, [])).1, n0 + j, cs.getD j (.r (.ints .u8 []))))) (Array.replicate ops.size false) ↔ n0 ≤ s ∧ s < n0 + cs.length := by
                  intro s
                  rw [mem_pend]
                  constructor
                  · rintro ⟨f, hf, rfl, _⟩
                    obtain ⟨j, i', rs, c, h1, h2, rfl, _⟩ := hfs f hf
                    have := (List.getElem?_eq_some_iff.1 h2).1
                    simp only; omega
                  · rintro ⟨h1, h2⟩
                    exact ⟨_, List.mem_map.2 ⟨s - n0, List.mem_range.2 (by omega), rfl⟩, by simp only; omega, hno _⟩
                have hmask : killAll (st.hp ++ rowsOf cs) (pend ((List.range cf.length).map (fun j => ((cf.getD j (0, [])).1, n0 + j, cs.getD j (.r (.ints .u8 []))))) (Array.replicate ops.size false)) = st.hp ++ List.replicate cs.length .dead := by
                  apply List.ext_getElem?
                  intro x
                  rw [killAll_at]
                  rw [List.length_append, rowsOf_length]
                  by_cases hx : x < n0
                  · have : ¬ x ∈ pend ((List.range cf.length).map (fun j => ((cf.getD j (0, [])).1, n0 + j, cs.getD j (.r (.ints .u8 []))))) (Array.replicate ops.size false) := fun h => by have := (hpend x).1 h; omega
                    rw [if_neg (fun h => this h.1), List.getElem?_append_left (by omega), List.getElem?_append_left (by omega)]
                  · by_cases hx2 : x < n0 + cs.length
                    · rw [if_pos ⟨(hpend x).2 ⟨by omega, hx2⟩, by omega⟩, List.getElem?_append_right (by omega), List.getElem?_replicate, if_pos (by omega)]
                    · rw [if_neg (fun h => by omega), List.getElem?_eq_none (by rw [List.length_append, rowsOf_length]; omega), List.getElem?_eq_none (by simp; omega)]
                have hst0 := hst.deads cs.length
                refine ⟨by simp, Nat.zero_le _, fun i o ho hd => absurd hd (hno i), fun j hj e => ⟨fun h => absurd h (hno j), fun h => by omega⟩, fun j d hd => absurd hd (hno j), fun t _ => by rw [e1], ?_, fun s hs => ?_, fun f hf => ?_⟩
                · rw [e2, hmask]
                  exact ⟨hst0.env, hst0.heap.drew, hst0.fr.drew, hst0.size, hst0.defers⟩
                · have := (hpend s).1 hs
                  unfold Poison
                  simp only
                  rw [if_neg (by omega)]
                · obtain ⟨j, i', rs, c, h1, h2, rfl, _⟩ := hfs f hf
                  have := (List.getElem?_eq_some_iff.1 h2).1
                  rw [e2, List.length_append, rowsOf_length]
                  simp only; omega
            · simp at hs1
          · simp at hev0
theorem drawG_ok {K : Nat} {id : Nat} {ops : Array Oper} {ais : List AI} {L : List (AI × Bool × Option Nat)} {anc : List (List Nat)} {ld : List Bool} {ck cf : List (Nat × List Nat)} {ac : AC} {st st' : St} {ex : Ex} {ρ : Nat → RV} {a : Act} {w : World} (hΓ : ∀ f, Sound C.P f (Γ f)) (hm : C.P.follows .mixedOrders = true) (hL : L.map (·.1) = ais)
    (hi : ∀ (i : Nat) (o : Oper), ops[i]? = some o → ∃ ai, ais[i]? = some ai ∧ ∃ ai0, cInstr C.P n ops o = some ai0 ∧ ai0.dst = ai.dst ∧ (∀ (env : Env) (hp hp1 : List Ob) (v : AV), stepI Γ env hp ai = some (v, hp1) → stepI Γ env hp ai0 = some (v, hp1)) ∧ (isF ai.op = true → ai0 = ai)) (hc : drawG ops.toList ais L anc ld ck cf = some ac)
    (hst : StR C ρ n st.env st.hp a w) (h : evC Γ K ac st = some (ex, st')) : (Code.region id ops true).wp C.P (QR C n ex st') a w := by
  unfold drawG at hc
  split at hc
  · rename_i hok
    obtain ⟨hok, hld, hokF⟩ := hok
    simp at hc; subst hc
    simp only [evC] at h
    unfold padB at h
    split at h
    · rename_i hb
      have he : st.hp = [] := by
        unfold bareB at hb
        simp only [Bool.and_eq_true, List.isEmpty_iff] at hb
        exact hb.1
      rw [he] at hst
      exact drawG_ok0 (st := ⟨st.env, st.rts, [.dead]⟩) hΓ hm hL hi hok hld hokF (hst.deads 1) h
    · exact drawG_ok0 hΓ hm hL hi hok hld hokF hst h
  · simp at hc
theorem markF_fst : ∀ (ais : List AI) (fl : List Bool) (j : Nat), fl.length = ais.length → (markF j ais fl).map (·.1) = ais
  | [], fl, j, h => by cases fl <;> simp [markF]
  | a :: ais, [], j, h => by simp at h
  | a :: ais, true :: fl, j, h => by simp only [markF, List.map_cons]; rw [markF_fst ais fl (j + 1) (by simpa using h)]
  | a :: ais, false :: fl, j, h => by simp only [markF, List.map_cons]; rw [markF_fst ais fl j (by simpa using h)]
theorem drawF_ok {K : Nat} {id : Nat} {ops : Array Oper} {ais : List AI} {ac : AC} {st st' : St} {ex : Ex} {ρ : Nat → RV} {a : Act} {w : World} (hΓ : ∀ f, Sound C.P f (Γ f)) (hm : C.P.follows .mixedOrders = true)
    (hi : ∀ (i : Nat) (o : Oper), ops[i]? = some o → ∃ ai, ais[i]? = some ai ∧ ∃ ai0, cInstr C.P n ops o = some ai0 ∧ ai0.dst = ai.dst ∧ (∀ (env : Env) (hp hp1 : List Ob) (v : AV), stepI Γ env hp ai = some (v, hp1) → stepI Γ env hp ai0 = some (v, hp1)) ∧ (isF ai.op = true → ai0 = ai)) (hc : drawF ops.toList ais = some ac)
    (hst : StR C ρ n st.env st.hp a w) (h : evC Γ K ac st = some (ex, st')) : (Code.region id ops true).wp C.P (QR C n ex st') a w := by
  unfold drawF drawF1 at hc
  exact drawG_ok hΓ hm (markF_fst _ _ _ (by simp)) hi hc hst h
theorem drawB_ok {K : Nat} {id : Nat} {ops : Array Oper} {ais : List AI} {st st' : St} {ex : Ex} {ρ : Nat → RV} {a : Act} {w : World} (hΓ : ∀ f, Sound C.P f (Γ f)) (hm : C.P.follows .mixedOrders = true) (hi : cInstrs C.P n ops ops.toList = some ais)
    (hb : ¬ ∃ r, evC Γ K badC st = some r) (hst : StR C ρ n st.env st.hp a w) (h : evC Γ K (drawB ops.toList ais) st = some (ex, st')) : (Code.region id ops true).wp C.P (QR C n ex st') a w := by
  have hget : ∀ (i : Nat) (o : Oper), ops[i]? = some o → ∃ ai, ais[i]? = some ai ∧ cInstr C.P n ops o = some ai := fun i o ho => (instrs_get hi).2 i o (by simpa using ho)
  unfold drawB at h
  split at h
  · rename_i ac hc
    exact drawE_ok hΓ hm hi (by unfold drawE; rw [hc]) hst h
  · split at h
    · rename_i ac hc
      refine drawF_ok hΓ hm (fun i o ho => ?_) hc hst h
      obtain ⟨ai, h1, h2⟩ := hget i o ho
      exact ⟨ai, h1, ai, h2, rfl, fun _ _ _ _ h => h, fun _ => rfl⟩
    · split at h
      · rename_i ac hc; exact drawE_ok hΓ hm hi hc hst h
      · split at h
        · rename_i ac hc
          refine drawF_ok hΓ hm (fun i o ho => ?_) hc hst h
          obtain ⟨ai, h1, h2⟩ := hget i o ho
          refine ⟨toP ai, by rw [List.getElem?_map, h1]; rfl, ai, h2, (toP_dst ai).symm, fun _ _ _ _ h => toP_step h, fun h => ?_⟩
          obtain ⟨d, g, op⟩ := ai
          cases op <;> first | rfl | (simp [toP, isF] at h)
        · exact absurd ⟨_, h⟩ hb
end
section
variable {C : Cx} {ρ ρ' : Nat → RV} {hp hp1 : List Ob} {w w' : World} {o : Oper} {a : Act} {env : Env} {Γ : Nat → Callee} {n : Nat}
theorem getT_ren (f : Nat → Option Nat) (t : Nat) : ∀ e : Env, getT t (Env.ren f e) = (getT t e).ren f
  | [] => rfl
  | (k, v) :: e => by
    simp only [Env.ren, getT]
    split
    · rfl
    · exact getT_ren f t e
theorem getT_keep (env : Env) (t : Nat) : ∀ l : List Nat, getT t (keep env l) = getT t env ∨ getT t (keep env l) = .one .undef
  | [] => .inr rfl
  | k :: l => by
    simp only [keep, getT]
    split
    · rename_i e; subst e; exact .inl rfl
    · exact getT_keep env t l
theorem StR.tidy {rts : List SV} (h : StR C ρ n env hp a w) : ∃ ρ', StR C ρ' n (tidy env rts hp).env (tidy env rts hp).hp a w := by
  have hf : Fine hp (reachL hp 64 (rts ++ envCells env) []) := reachL_fine hp 64 _ [] (Fine.nil hp)
  unfold Go.X.tidy
  generalize reachL hp 64 (rts ++ envCells env) [] = ks at hf
  refine ⟨rho ρ ks, fun t => ?_, h.heap.pick hf, h.fr, h.size, h.defers⟩
  simp only [tidyKs, pick_length]
  rw [getT_ren]
  exact AVR.ren turn_pos (h.env t)
theorem StR.keep {live : List Nat} (h : StR C ρ n env hp a w) : StR C ρ n (keep env live) hp a w := by
  refine ⟨fun t => ?_, h.heap, h.fr, h.size, h.defers⟩
  rcases getT_keep env t live with e | e
  · rw [e]; exact h.env t
  · rw [e]; exact .one _ _ (.undef _)
theorem StR.head {live : List Nat} {st : St} (h : StR C ρ n st.env st.hp a w) : ∃ ρ', StR C ρ' n (st.head live).env (st.head live).hp a w := h.keep.tidy
theorem bool_of {x : AO} {X : Operand} {t : TypeId} {b : Bool} (hx : cOp C.P t X = some x) (he : EnvR C hp.length ρ env a) (h : getO env x = .one (.bool b)) : a.eval X = .bool b := by
  have h1 := cOp_ok hx he
  rw [h] at h1
  generalize a.eval X = v at h1
  cases h1 with | one _ _ h => cases h; rfl
theorem bad_none {K : Nat} {st : St} {r : Ex × St} : ¬ evC Γ K badC st = some r := by
  intro h
  obtain ⟨env, rts, hp⟩ := st
  simp [badC, evC, evIs, evOp, thenI, normC] at h
theorem code_ok {K : Nat} (hΓ : ∀ f, Sound C.P f (Γ f)) (hm : C.P.follows .mixedOrders = true) : ∀ (c : Code) (l : List Nat) (xs : List (Nat × List Nat)) (r : List Nat) (ac : AC) (st : St) (ex : Ex) (st' : St) (ρ : Nat → RV) (a : Act) (w : World),
    cCode C.P n c l xs r = some ac → evC Γ K ac st = some (ex, st') → StR C ρ n st.env st.hp a w → c.wp C.P (QR C n ex st') a w
  | .skip, l, xs, r, ac, st, ex, st', ρ, a, w, hc, h, hst => by
    simp [cCode] at hc; subst hc
    simp [evC] at h; obtain ⟨rfl, rfl⟩ := h
    exact wp_skip ⟨rfl, ρ, hst⟩
  | .region id ops d, l, xs, r, ac, st, ex, st', ρ, a, w, hc, h, hst => by
    simp only [cCode] at hc
    obtain ⟨ais, hi, hc2⟩ := map_some hc
    clear hc
    split at hc2
    · rename_i hd; subst hd
      subst hc2
      exact drawB_ok hΓ hm hi (fun ⟨_, h⟩ => bad_none h) hst h
    · rename_i hd
      have : d = false := by simpa using hd
      subst this
      subst hc2
      simp only [evC] at h
      unfold normC at h
      split at h
      · simp at h
      · rename_i st1 hs
        simp at h; obtain ⟨rfl, rfl⟩ := h
        obtain ⟨env, rts, hp⟩ := st
        refine wp_region ?_
        have := ops_ok (rts := rts) hΓ ops.toList 0 ais ρ env hp a w (by simp) hi hst hs
        simpa [List.range_eq_range'] using this
  | .seq x y, l, xs, r, ac, st, ex, st', ρ, a, w, hc, h, hst => by
    simp only [cCode] at hc
    obtain ⟨⟨ax, ay⟩, hb, rfl⟩ := map_some hc
    obtain ⟨hx, hy⟩ := both_ok hb
    simp only [evC] at h
    unfold thenC at h
    split at h
    · simp at h
    · rename_i st1 h1
      refine wp_seq (wp_mono (code_ok hΓ hm x _ _ _ _ _ _ _ ρ a w hx h1 hst) fun e a1 w1 q => ?_)
      cases e <;> simp only [QR] at q <;> try exact q.elim
      · obtain ⟨_, ρ1, hst1⟩ := q
        exact code_ok hΓ hm y _ _ _ _ _ _ _ ρ1 a1 w1 hy h hst1
      · exact absurd q.1 (by simp)
      · exact absurd q.1 (by simp)
    · rename_i i st1 h1
      simp at h; obtain ⟨rfl, rfl⟩ := h
      refine wp_seq (wp_mono (code_ok hΓ hm x _ _ _ _ _ _ _ ρ a w hx h1 hst) fun e a1 w1 q => ?_)
      cases e <;> simp only [QR] at q <;> try exact q.elim
      · exact absurd q.1 (by simp)
      · first | exact ⟨rfl, q.2⟩ | exact ⟨q.1, q.2⟩
      · exact absurd q.1 (by simp)
    · rename_i st1 h1
      simp at h; obtain ⟨rfl, rfl⟩ := h
      refine wp_seq (wp_mono (code_ok hΓ hm x _ _ _ _ _ _ _ ρ a w hx h1 hst) fun e a1 w1 q => ?_)
      cases e <;> simp only [QR] at q <;> try exact q.elim
      · exact absurd q.1 (by simp)
      · exact absurd q.1 (by simp)
      · first | exact ⟨rfl, q.2⟩ | exact ⟨q.1, q.2⟩
  | .cond c x y, l, xs, r, ac, st, ex, st', ρ, a, w, hc, h, hst => by
    simp only [cCode] at hc
    obtain ⟨co, hco, hc⟩ := bind_some hc
    obtain ⟨⟨ax, ay⟩, hb, rfl⟩ := map_some hc
    obtain ⟨hx, hy⟩ := both_ok hb
    simp only [evC] at h
    unfold branchC at h
    split at h
    · rename_i t ht
      refine wp_cond (bool_of hco hst.env ht) ?_
      cases t
      · simp only [Bool.false_eq_true, if_false] at h ⊢
        exact code_ok hΓ hm y _ _ _ _ _ _ _ ρ a w hy h hst
      · simp only [if_true] at h ⊢
        exact code_ok hΓ hm x _ _ _ _ _ _ _ ρ a w hx h hst
    · simp at h
  | .block id x, l, xs, r, ac, st, ex, st', ρ, a, w, hc, h, hst => by
    simp only [cCode] at hc
    obtain ⟨ax, hx, rfl⟩ := map_some hc
    simp only [evC] at h
    unfold blockC at h
    split at h
    · simp at h
    · rename_i st1 h1
      simp at h; obtain ⟨rfl, rfl⟩ := h
      refine wp_block (wp_mono (code_ok hΓ hm x _ _ _ _ _ _ _ ρ a w hx h1 hst) fun e a1 w1 q => ?_)
      cases e <;> simp only [QR] at q <;> try exact q.elim
      · first | exact ⟨rfl, q.2⟩ | exact ⟨q.1, q.2⟩
      · exact absurd q.1 (by simp)
      · exact absurd q.1 (by simp)
    · rename_i i st1 h1
      refine wp_block (wp_mono (code_ok hΓ hm x _ _ _ _ _ _ _ ρ a w hx h1 hst) fun e a1 w1 q => ?_)
      cases e <;> simp only [QR] at q <;> try exact q.elim
      · exact absurd q.1 (by simp)
      · rename_i i'
        obtain ⟨e, ρ1, q⟩ := q
        simp at e; subst e
        simp only [Exit.inBlock]
        split at h
        · rename_i hid; simp at h; obtain ⟨rfl, rfl⟩ := h
          rw [if_pos hid.symm]; exact ⟨rfl, ρ1, q⟩
        · rename_i hid; simp at h; obtain ⟨rfl, rfl⟩ := h
          rw [if_neg (Ne.symm hid)]; exact ⟨rfl, ρ1, q⟩
      · exact absurd q.1 (by simp)
    · rename_i st1 h1
      simp at h; obtain ⟨rfl, rfl⟩ := h
      refine wp_block (wp_mono (code_ok hΓ hm x _ _ _ _ _ _ _ ρ a w hx h1 hst) fun e a1 w1 q => ?_)
      cases e <;> simp only [QR] at q <;> try exact q.elim
      · exact absurd q.1 (by simp)
      · exact absurd q.1 (by simp)
      · first | exact ⟨rfl, q.2⟩ | exact ⟨q.1, q.2⟩
  | .loop x, l, xs, r, ac, st, ex, st', ρ, a, w, hc, h, hst => by
    simp only [cCode] at hc
    obtain ⟨ax, hx, rfl⟩ := map_some hc
    simp only [evC] at h
    generalize sortN (liveC (.loop x) [] xs r) = live at h
    refine wp_loop_ghost (fun k a w => ∃ ρ st, StR C ρ n st.env st.hp a w ∧ loopN (evC Γ K ax) live k st = some (ex, st')) K ⟨ρ, st, hst, h⟩ ?_
    rintro k a1 w1 ⟨ρ1, st1, hst1, h1⟩
    cases k with
    | zero => simp [loopN] at h1
    | succ k =>
      simp only [loopN] at h1
      obtain ⟨ρ2, hst2⟩ := hst1.head (live := live)
      unfold thenC at h1
      split at h1
      · simp at h1
      · rename_i st2 h2
        refine wp_mono (code_ok hΓ hm x _ _ _ _ _ _ _ ρ2 a1 w1 hx h2 hst2) fun e a3 w3 q => ?_
        cases e <;> simp only [QR] at q <;> try exact q.elim
        · obtain ⟨_, ρ3, q⟩ := q
          exact ⟨k, Nat.lt_succ_self _, ρ3, st2, q, h1⟩
        · exact absurd q.1 (by simp)
        · exact absurd q.1 (by simp)
      · rename_i i st2 h2
        simp at h1; obtain ⟨rfl, rfl⟩ := h1
        refine wp_mono (code_ok hΓ hm x _ _ _ _ _ _ _ ρ2 a1 w1 hx h2 hst2) fun e a3 w3 q => ?_
        cases e <;> simp only [QR] at q <;> try exact q.elim
        · exact absurd q.1 (by simp)
        · first | exact ⟨rfl, q.2⟩ | exact ⟨q.1, q.2⟩
        · exact absurd q.1 (by simp)
      · rename_i st2 h2
        simp at h1; obtain ⟨rfl, rfl⟩ := h1
        refine wp_mono (code_ok hΓ hm x _ _ _ _ _ _ _ ρ2 a1 w1 hx h2 hst2) fun e a3 w3 q => ?_
        cases e <;> simp only [QR] at q <;> try exact q.elim
        · exact absurd q.1 (by simp)
        · exact absurd q.1 (by simp)
        · first | exact ⟨rfl, q.2⟩ | exact ⟨q.1, q.2⟩
  | .exit id, l, xs, r, ac, st, ex, st', ρ, a, w, hc, h, hst => by
    simp [cCode] at hc; subst hc
    simp [evC] at h; obtain ⟨rfl, rfl⟩ := h
    exact wp_exit ⟨rfl, ρ, hst⟩
  | .scope x, l, xs, r, ac, st, ex, st', ρ, a, w, hc, h, hst => by
    simp only [cCode] at hc
    obtain ⟨ax, hx, rfl⟩ := map_some hc
    simp only [evC] at h
    refine wp_scope_straight (wp_mono (code_ok hΓ hm x _ _ _ _ _ _ _ ρ a w hx h hst) fun e a1 w1 q => ?_)
    cases e <;> simp only [QR] at q <;> first | exact ⟨q.1, q.2⟩ | exact q.elim
  | .ret, l, xs, r, ac, st, ex, st', ρ, a, w, hc, h, hst => by
    simp [cCode] at hc; subst hc
    simp [evC] at h; obtain ⟨rfl, rfl⟩ := h
    exact wp_ret ⟨rfl, ρ, hst⟩
  | .rangeFunc _ _ _ _, _, _, _, _, _, _, _, _, _, _, hc, h, _ => by simp [cCode] at hc; subst hc; exact absurd h bad_none
  | .label _, _, _, _, _, _, _, _, _, _, _, hc, h, _ => by simp [cCode] at hc; subst hc; exact absurd h bad_none
  | .goto _, _, _, _, _, _, _, _, _, _, _, hc, h, _ => by simp [cCode] at hc; subst hc; exact absurd h bad_none
  | .refuse _, _, _, _, _, _, _, _, _, _, _, hc, h, _ => by simp [cCode] at hc; subst hc; exact absurd h bad_none
end
section
variable {C : Cx} {ρ ρ' : Nat → RV} {hp hp1 : List Ob} {w w' : World} {o : Oper} {a : Act} {env : Env} {Γ : Nat → Callee} {n : Nat}
def resS (tmps : Array Value) : ResultVar → Sem Value
  | .tmp t => pure (tmps.getD t undef)
  | .cell a t => do loadVar t (← asAddr (tmps.getD a undef))
theorem res_one {rv : ResultVar} {r : Nat × Option (Option Nat)} {v : AV} (hc : cRes C.P rv = some r) (hst : StR C ρ n env hp a w) (h : resOf env hp r = some v) : ∃ u, (resS a.tmps rv).run C.P w = .ok u w ∧ AVR C hp.length ρ v u := by
  cases rv with
  | tmp t =>
    simp [cRes] at hc; subst hc
    simp [resOf] at h; subst h
    exact ⟨_, rfl, hst.env t⟩
  | cell t ty =>
    simp only [cRes] at hc
    obtain ⟨b, hb, hc⟩ := bind_some hc
    have h1 := hst.env t
    split at hc
    · rename_i hb'; subst hb'
      obtain ⟨m, hm, rfl⟩ := map_some hc
      simp only [resOf] at h
      cases hl : loadN hp m (getT t env).sv with
      | none => simp [hl, aggAV] at h
      | some s =>
        simp [hl, aggAV] at h; subst h
        obtain ⟨_, h2⟩ := h1.sv_of (by intro e; rw [e] at hl; simp [loadN] at hl)
        obtain ⟨ad, vs, e, hlen, hcell, hv⟩ := loadN_ok h2 hst.heap hst.fr hl
        have hr := run_loadCells_list (P := C.P) w ad vs hcell
        rw [hlen] at hr
        refine ⟨.agg vs.toArray, ?_, .agg _ _ hv⟩
        simp only [resS, e]
        simp [asAddr, loadVar, run_isAgg w hb, run_sizeT w hm, hr]
    · rename_i hb'
      have : b = false := by simpa using hb'
      subst this
      simp at hc; subst hc
      simp only [resOf] at h
      cases hl : loadOne hp (getT t env).sv with
      | none => simp [hl, oneAV] at h
      | some s =>
        simp [hl, oneAV] at h; subst h
        obtain ⟨_, h2⟩ := h1.sv_of (by intro e; rw [e] at hl; exact loadOne_undef hl)
        obtain ⟨ad, v, e, hcell, hv⟩ := loadOne_ok h2 hst.heap hst.fr hl
        refine ⟨v, ?_, .one _ _ hv⟩
        simp only [resS, e]
        simp [asAddr, loadVar, run_isAgg w hb, load, Sem.run, hcell]
theorem res_all (hst : StR C ρ n env hp a w) : ∀ {rvs : List ResultVar} {rs : List (Nat × Option (Option Nat))} {l : List AV}, rvs.mapM (cRes C.P) = some rs → resL env hp rs = some l → ∃ us, (rvs.mapM (resS a.tmps)).run C.P w = .ok us w ∧ AVRL C hp.length ρ l us
  | [], rs, l, hc, h => by
    simp at hc; subst hc
    simp [resL] at h; subst h
    exact ⟨[], by simp, .nil⟩
  | rv :: rvs, rs, l, hc, h => by
    simp only [List.mapM_cons, Option.pure_def, Option.bind_eq_bind, Option.bind_eq_some_iff] at hc
    obtain ⟨r, hr, rs', hrs, e⟩ := hc
    simp at e; subst e
    simp only [resL, Option.bind_eq_some_iff, Option.map_eq_some_iff] at h
    obtain ⟨v, hv, l', hl, rfl⟩ := h
    obtain ⟨u, h1, h2⟩ := res_one hr hst hv
    obtain ⟨us, h3, h4⟩ := res_all hst hrs hl
    refine ⟨u :: us, ?_, .cons _ _ _ _ h2 h4⟩
    simp [List.mapM_cons, h1, h3]
theorem results_eq (fn : Func) (tmps : Array Value) : results fn tmps = (do let vs ← fn.results.mapM (resS tmps); pure (if h : vs.size = 1 then vs[0] else .tuple vs)) := by
  unfold results
  congr 1
theorem AVRL.length {l : List AV} {vs : List Value} (h : AVRL C n ρ l vs) : l.length = vs.length := by
  induction l generalizing vs with
  | nil => cases h; rfl
  | cons s l ih => cases h with | cons _ v _ vs h hl => simp [ih hl]
theorem tup_ok {l : List AV} {us : List Value} (h : AVRL C n ρ l us) : AVR C n ρ (tupOf l) (if h : us.toArray.size = 1 then us.toArray[0] else .tuple us.toArray) := by
  cases h with
  | nil => exact .tup _ _ .nil
  | cons s v l vs h hl =>
    cases hl with
    | nil => simpa [tupOf] using h
    | cons s' v' l vs h' hl => simp only [tupOf]; exact .tup _ _ (.cons _ _ _ _ h (.cons _ _ _ _ h' hl))
theorem argEnv_get : ∀ (l : List AV) (k t : Nat), getT t (argEnv k l) = (if t < k then .one .undef else l.getD (t - k) (.one .undef))
  | [], k, t => by simp [argEnv, getT]
  | v :: l, k, t => by
    simp only [argEnv, getT]
    split
    · rename_i e; subst e; simp
    · rename_i e
      rw [argEnv_get l (k + 1) t]
      by_cases h : t < k
      · rw [if_pos h, if_pos (by omega)]
      · rw [if_neg h, if_neg (by omega)]
        obtain ⟨m, rfl⟩ : ∃ m, t = k + (m + 1) := ⟨t - k - 1, by omega⟩
        rw [show k + (m + 1) - (k + 1) = m by omega, show k + (m + 1) - k = m + 1 by omega]
        simp
theorem fn_ok {P : Program} {f : Nat} {af : AF} {K : Nat} (hΓ : ∀ f, Sound P f (Γ f)) (hm : P.follows .mixedOrders = true) (hc : cFunc P f = some af) : Sound P f (evF Γ K af) := by
  intro args hp r hp' h
  unfold cFunc at hc
  obtain ⟨fn, hf, hc⟩ := bind_some hc
  obtain ⟨c, hb, hc⟩ := bind_some hc
  split at hc
  · rename_i hcond
    obtain ⟨hle, hbody⟩ := hcond
    obtain ⟨rs, hrs, hc⟩ := bind_some hc
    obtain ⟨ac, hac, rfl⟩ := map_some hc
    refine ⟨hbody, fun C ρ w rargs hP hw hD hargs hH => ?_⟩
    subst hP
    refine calls_of_wp hf hb ?_
    have hst : StR C ρ fn.ntmps (argEnv 0 args) hp { tmps := rargs.toArray ++ Array.replicate (fn.ntmps - rargs.toArray.size) undef, defers := [] } w := by
      refine ⟨fun t => ?_, hH, FR.start hw, by simp; omega, hD.symm⟩
      rw [argEnv_get]
      simp only [Nat.not_lt_zero, if_false, Nat.sub_zero]
      by_cases ht : t < args.length
      · obtain ⟨v, hv1, hv2⟩ := hargs.get (List.getElem?_eq_getElem ht)
        have hlt : t < rargs.length := (List.getElem?_eq_some_iff.1 hv1).1
        rw [Array.getD_eq_getD_getElem?, Array.getElem?_append_left (by simpa using hlt)]
        rw [List.getElem?_toArray, hv1]
        simp only [List.getD, List.getElem?_eq_getElem ht, Option.getD_some]
        exact hv2
      · rw [List.getD, List.getElem?_eq_none (by omega)]
        exact .one _ _ (.undef _)
    have hev : ∃ ex st, evC Γ K ac ⟨argEnv 0 args, avsCells args, hp⟩ = some (ex, st) ∧ give st.rts st.hp (resL st.env st.hp rs) = some (r, hp') ∧ (ex = .norm ∨ ex = .ret) := by
      simp only [evF] at h
      unfold resC at h
      split at h
      · rename_i st e; exact ⟨_, st, e, h, .inl rfl⟩
      · rename_i st e; exact ⟨_, st, e, h, .inr rfl⟩
      · simp at h
    obtain ⟨ex, st, hev, hg, hex⟩ := hev
    have fin : ∀ (a1 : Act) (w1 : World), (∃ ρ, StR C ρ fn.ntmps st.env st.hp a1 w1) → a1.defers = [] ∧ ∃ v, (results fn a1.tmps).run C.P w1 = .ok v w1 ∧ ∃ ρ' rv, Ending.returned v = .returned rv ∧ AVR C hp'.length ρ' r rv ∧ HR C ρ' hp' w1 ∧ FR C w1 := by
      rintro a1 w1 ⟨ρ1, hs1⟩
      refine ⟨hs1.defers.trans hD, ?_⟩
      unfold give at hg
      split at hg
      · simp at hg
      · rename_i l hl
        obtain ⟨us, h1, h2⟩ := res_all hs1 hrs hl
        have hf : Fine st.hp (reachL st.hp 64 (st.rts ++ avCells (tupOf l)) []) := reachL_fine st.hp 64 _ [] (Fine.nil st.hp)
        generalize reachL st.hp 64 (st.rts ++ avCells (tupOf l)) [] = ks at hg hf
        simp only [giveKs, Option.some.injEq, Prod.mk.injEq] at hg
        obtain ⟨rfl, rfl⟩ := hg
        refine ⟨(if h : us.toArray.size = 1 then us.toArray[0] else .tuple us.toArray), ?_, rho ρ1 ks, _, rfl, ?_, hs1.heap.pick hf, hs1.fr⟩
        · rw [results_eq, Array.mapM_eq_mapM_toList]
          simp [h1]
        · rw [pick_length]; exact AVR.ren turn_pos (tup_ok h2)
    refine wp_mono (code_ok hΓ hm c _ _ _ ac _ ex st ρ _ w hac hev hst) fun e a1 w1 q => ?_
    cases e <;> simp only [QR] at q <;> try exact q.elim
    · exact fin a1 w1 q.2
    · rcases hex with rfl | rfl <;> exact absurd q.1 (by simp)
    · exact fin a1 w1 q.2
  · simp at hc
end
open Go.RowKit Go.ChangeShapes Go.ChangeAt Go.WideShapes
def none0 : Nat → Callee := fun _ _ _ => none
def upd (Γ : Nat → Callee) (n : Nat) (F : Callee) : Nat → Callee := fun f => if f = n then F else Γ f
theorem none0_ok (P : Program) : ∀ f, Sound P f (none0 f) := fun f args hp r hp' h => by simp [none0] at h
theorem upd_ok {P : Program} {Γ : Nat → Callee} {n : Nat} {F : Callee} (h : ∀ f, Sound P f (Γ f)) (hF : Sound P n F) : ∀ f, Sound P f (upd Γ n F f) := fun f => by
  unfold upd
  split
  · rename_i e; subst e; exact hF
  · exact h f
theorem upd_at (Γ : Nat → Callee) (n : Nat) (F : Callee) : upd Γ n F n = F := by simp [upd]
theorem upd_ne (Γ : Nat → Callee) {n m : Nat} (F : Callee) (h : m ≠ n) : upd Γ n F m = Γ m := by simp [upd, h]
@[irreducible] def KK : Nat := 100000
theorem KK_eq : KK = 100000 := by unfold KK; rfl
def cx0 (P : Program) (w : World) (τ : Nat → Nat) : Cx := ⟨P, w, fun _ => False, τ, fun _ => ⟨.nilFunc, 0⟩, []⟩
def rho0 : Nat → RV := fun _ => ⟨.nilFunc, 0⟩
theorem law_of {P : Program} {f : Nat} {F : Callee} {args : List AV} {rargs : List Value} {w : World} {hp' : List Ob} (τ : Nat → Nat) (hS : Sound P f F) (h : F args [] = some (.one (.bool true), hp')) (hv : AVRL (cx0 P w τ) 0 rho0 args rargs) :
    Calls P f rargs.toArray w fun e w' => e = .returned (.bool true) ∧ Below w.heap.size w w' := by
  refine Calls.mono ((hS args [] _ _ h).2 (cx0 P w τ) rho0 w rargs rfl rfl rfl hv ⟨fun k o h => by simp at h, fun j k b _ hj => ?_⟩) ?_
  · obtain ⟨o, ho, _⟩ := hj; simp at ho
  · rintro e w' ⟨ρ', rv, rfl, h1, _, h3⟩
    cases h1 with
    | one _ _ h1 =>
      cases h1
      exact ⟨rfl, h3.os, h3.tape, h3.output, h3.size, fun k hk => h3.block k hk (fun h => h)⟩
section
variable {H : Type} {enc : TypeId × Value → H} {P : Program}
theorem trodAll_below (hl : laidOutB P = true) {W W' : World} (hb : Below W.heap.size W W') : ∀ {ts : List TypeId} {vs : List Value} {ds : List (DataW H)} {ps : List MemPlace}, (ts.all fun t => P.readableRec t && decide (t < P.types.size)) = true →
    DataW.TrodAll enc P W 0 (fun _ => true) true ts vs ds ps → (∀ x ∈ ps, x.block < W.heap.size) → DataW.TrodAll enc P W' 0 (fun b => decide (b < W.heap.size)) true ts vs ds ps
  | [], vs, ds, ps, _, h, _ => by
    obtain ⟨rfl, rfl, rfl⟩ := trodAll_nil h
    exact trodAll_mk0
  | t :: ts, vs, ds, ps, hr, h, hlt => by
    simp only [List.all_cons, Bool.and_eq_true, decide_eq_true_eq] at hr
    obtain ⟨v, vs', d, ds', p, q, rfl, rfl, rfl, h0, r0⟩ := trodAll_cons h
    exact trodAll_cons_mk (Below.trod hl hr.1.1 hr.1.2 h0 hb fun x hx => hlt x (by simp [hx])) (trodAll_below hl hb (by simpa using hr.2) r0 fun x hx => hlt x (by simp [hx]))
theorem post_below {f : Func} {s : ChangeSpec} {apart fresh handsOn : Bool} {W W' : World} {args : Array Value} {v : Value} {ds gs : List (DataW H)} {before : List MemPlace} (hl : laidOutB P = true)
    (hr : (f.params.toList.all fun t => P.readableRec t && decide (t < P.types.size)) = true) (hW : DataW.Whole enc P f.params.toList s.vars apart W args.toList ds gs before) (hb : Below W.heap.size W W')
    (hres : ∀ (b : Nat) (sp : Nat → Bool) (hd : Bool), DataW.TrodAll enc P W' b sp hd f.resultTypes.toList (v.resultList f.resultTypes.size) (s.fn H (ds ++ gs)).results [])
    (hargs : (s.fn H (ds ++ gs)).args = ds) (hA : DataW.TrodAll enc P W 0 (fun _ => true) true f.params.toList args.toList ds before) (hvars : ∀ sp : Nat → Bool, DataW.TrodVars enc P W' sp s.vars (s.fn H (ds ++ gs)).vars []) :
    s.post enc P f apart fresh handsOn false W args v W' := by
  have hlt : ∀ x ∈ before, x.block < W.heap.size := fun x hx => by simpa using hW.lt x hx
  refine ⟨ds, gs, before, [], before, [], hW, hres _ _ _, ?_, hvars _, hb.frame _, fun h => by cases h⟩
  rw [hargs]
  exact trodAll_below hl hb hr hA hlt
end
@[congr] theorem guardI_cg {b : Bool} {x y : Option St} {v v' : AV} (h : v = v') : guardI b x y v = guardI b x y v' := by rw [h]
@[congr] theorem stepG_cg {b : Bool} {r : Res} {hp : List Ob} {v v' : AV} (h : v = v') : stepG b r hp v = stepG b r hp v' := by rw [h]
@[congr] theorem thenI_cg {env : Env} {rts : List SV} {d : Option Nat} {f : St → Option St} {r r' : Res} (h : r = r') : thenI env rts d f r = thenI env rts d f r' := by rw [h]
@[congr] theorem thenD_cg {d : Option Nat} {b : Bool} {f : Env → List Ob → List (List Ob) → ResD} {env : Env} {hs : List (List Ob)} {r r' : Res} (h : r = r') : thenD d b f env hs r = thenD d b f env hs r' := by rw [h]
@[congr] theorem passN_cg {d : Option Nat} {f : Env → List Ob → Option (List FO)} {env : Env} {r r' : Res} (h : r = r') : passN d f env r = passN d f env r' := by rw [h]
@[congr] theorem passR_cg {d : Option Nat} {s : Nat} {v : SV} {f : Env → List Ob → Option (List FO)} {env : Env} {hp : List Ob} {r r' : Option FO} (h : r = r') : passR d s v f env hp r = passR d s v f env hp r' := by rw [h]
@[congr] theorem secF_cg {Γ : Nat → Callee} {l : List (AI × Bool × Option Nat)} {ck cf : List (Nat × List Nat)} {env : Env} {rts : List SV} {hp : List Ob} {r r' : Option (List FO)} (h : r = r') : secF Γ l ck cf env rts hp r = secF Γ l ck cf env rts hp r' := by rw [h]
@[congr] theorem finF_cg {Γ : Nat → Callee} {l : List (AI × Bool × Option Nat)} {n0 : Nat} {cs : List FO} {cf : List (Nat × List Nat)} {r r' : ResD} (h : r = r') : finF Γ l n0 cs cf r = finF Γ l n0 cs cf r' := by rw [h]
@[congr] theorem thenC_cg {f : St → Option (Ex × St)} {r r' : Option (Ex × St)} (h : r = r') : thenC f r = thenC f r' := by rw [h]
@[congr] theorem blockC_cg {i : Nat} {r r' : Option (Ex × St)} (h : r = r') : blockC i r = blockC i r' := by rw [h]
@[congr] theorem branchC_cg {f g : St → Option (Ex × St)} {st : St} {v v' : AV} (h : v = v') : branchC f g st v = branchC f g st v' := by rw [h]
@[congr] theorem resC_cg {rs : List (Nat × Option (Option Nat))} {r r' : Option (Ex × St)} (h : r = r') : resC rs r = resC rs r' := by rw [h]
@[congr] theorem finD_cg {Γ : Nat → Callee} {l : List (AI × Bool)} {ck : List (Nat × List Nat)} {rts : List SV} {r r' : ResD} (h : r = r') : finD Γ l ck rts r = finD Γ l ck rts r' := by rw [h]
attribute [simp] fvsOf svF FV.sv AV.same_refl SV.same_refl sameL_refl getT evDs ckKs ckAll finD finF ckFs ckSl rowsOf deads evC zcells putAt eqScs argEnv keep fillAll setScs reachSV reachOb reachL SV.ren renL AV.ren renT Env.ren Ob.ren pick avCells avsCells SV.strip stripL Ob.strip handed lendL lendArgs tagAll backKeys killAll layBack backL Ob.back argCells intsOf rcCells cviewAt AV.back backT scsOf partAt bsFrom getPs getPP getL getSL envCells resL pos
attribute [simp] fval callB bareB padB
@[simp] theorem posPtr_some (o : Nat) (j : Nat) : posPtr o (some j) = .ptr j o := rfl
@[simp] theorem posPtr_none (o : Nat) : posPtr o none = .undef := rfl
@[simp] theorem posEptr_some (i o : Nat) (j : Nat) : posEptr i o (some j) = .eptr j i o := rfl
@[simp] theorem posEptr_none (i o : Nat) : posEptr i o none = .undef := rfl
@[simp] theorem posRow_some  (j : Nat) : posRow (some j) = .row j := rfl
@[simp] theorem posRow_none  : posRow none = .undef := rfl
@[simp] theorem posView_some (o n : Nat) (j : Nat) : posView o n (some j) = .view j o n := rfl
@[simp] theorem posView_none (o n : Nat) : posView o n none = .undef := rfl
@[simp] theorem posCview_some (o n : Nat) (j : Nat) : posCview o n (some j) = .cview j o n := rfl
@[simp] theorem posCview_none (o n : Nat) : posCview o n none = .undef := rfl
@[simp] theorem posF_def (ks : List Nat) (k : Nat) : posF ks k = pos k ks := rfl
@[simp] theorem ofOpt_some (o : Ob) : Ob.ofOpt (some o) = o := rfl
@[simp] theorem ofOpt_none  : Ob.ofOpt none = .dead := rfl
@[simp] theorem roOf_some (t : Nat) (v : SV) (c : RC) : roOf t v (some c) = .ro t c := rfl
@[simp] theorem lend_row (hp : List Ob) (ks : List Nat) (t : Nat) (k : Nat) : SV.lend hp ks t (.row k) = if ks.elem k then .row k else roOf t .undef (rowAt hp[k]?) := by simp [SV.lend, SV.strip]
@[simp] theorem back_row (args : List SV) (k : Nat) : SV.back args (.row k) = .row k := by simp [SV.back, SV.strip]
@[simp] theorem lend_view (hp : List Ob) (ks : List Nat) (t : Nat) (k o n : Nat) : SV.lend hp ks t (.view k o n) = if ks.elem k then .view k o n else roOf t .undef (cutAt o n hp[k]?) := by simp [SV.lend, SV.strip]
@[simp] theorem back_view (args : List SV) (k o n : Nat) : SV.back args (.view k o n) = .view k o n := by simp [SV.back, SV.strip]
@[simp] theorem lend_ro (hp : List Ob) (ks : List Nat) (t : Nat) (u : Nat) (c : RC) : SV.lend hp ks t (.ro u c) = .ro t c := by simp [SV.lend, SV.strip]
@[simp] theorem lend_rptr (hp : List Ob) (ks : List Nat) (t : Nat) (u : Nat) (c : RC) (i o : Nat) : SV.lend hp ks t (.rptr u c i o) = .rptr t c i o := by simp [SV.lend, SV.strip]
@[simp] theorem lend_eptr (hp : List Ob) (ks : List Nat) (t : Nat) (k i o : Nat) : SV.lend hp ks t (.eptr k i o) = if ks.elem k then .eptr k i o else .undef := by simp [SV.lend, SV.strip]
@[simp] theorem back_eptr (args : List SV) (k i o : Nat) : SV.back args (.eptr k i o) = .eptr k i o := by simp [SV.back, SV.strip]
@[simp] theorem lend_cview (hp : List Ob) (ks : List Nat) (t : Nat) (k o n : Nat) : SV.lend hp ks t (.cview k o n) = if ks.elem k then .cview k o n else roOf t .undef (cviewAt o n hp[k]?) := by simp [SV.lend, SV.strip]
@[simp] theorem back_cview (args : List SV) (k o n : Nat) : SV.back args (.cview k o n) = .cview k o n := by simp [SV.back, SV.strip]
@[simp] theorem lend_undef (hp : List Ob) (ks : List Nat) (t : Nat)  : SV.lend hp ks t .undef = .undef := by simp [SV.lend, SV.strip]
@[simp] theorem back_undef (args : List SV)  : SV.back args .undef = .undef := by simp [SV.back, SV.strip]
@[simp] theorem lend_int (hp : List Ob) (ks : List Nat) (t : Nat) (k : IntKind) (x : Int) : SV.lend hp ks t (.int k x) = .int k x := by simp [SV.lend, SV.strip]
@[simp] theorem back_int (args : List SV) (k : IntKind) (x : Int) : SV.back args (.int k x) = .int k x := by simp [SV.back, SV.strip]
@[simp] theorem lend_bool (hp : List Ob) (ks : List Nat) (t : Nat) (b : Bool) : SV.lend hp ks t (.bool b) = .bool b := by simp [SV.lend, SV.strip]
@[simp] theorem back_bool (args : List SV) (b : Bool) : SV.back args (.bool b) = .bool b := by simp [SV.back, SV.strip]
@[simp] theorem lend_str (hp : List Ob) (ks : List Nat) (t : Nat) (s : ByteArray) : SV.lend hp ks t (.str s) = .str s := by simp [SV.lend, SV.strip]
@[simp] theorem back_str (args : List SV) (s : ByteArray) : SV.back args (.str s) = .str s := by simp [SV.back, SV.strip]
@[simp] theorem lend_nilp (hp : List Ob) (ks : List Nat) (t : Nat)  : SV.lend hp ks t .nilp = .nilp := by simp [SV.lend, SV.strip]
@[simp] theorem back_nilp (args : List SV)  : SV.back args .nilp = .nilp := by simp [SV.back, SV.strip]
@[simp] theorem lend_ptr (hp : List Ob) (ks : List Nat) (t : Nat) (k o : Nat) : SV.lend hp ks t (.ptr k o) = .ptr k o := by simp [SV.lend, SV.strip]
@[simp] theorem back_ptr (args : List SV) (k o : Nat) : SV.back args (.ptr k o) = .ptr k o := by simp [SV.back, SV.strip]
@[simp] theorem lend_nils (hp : List Ob) (ks : List Nat) (t : Nat) (c : RC) : SV.lend hp ks t (.nils c) = .nils c := by simp [SV.lend, SV.strip]
@[simp] theorem back_nils (args : List SV) (c : RC) : SV.back args (.nils c) = .nils c := by simp [SV.back, SV.strip]
@[simp] theorem lend_fn (hp : List Ob) (ks : List Nat) (t : Nat) (f : Nat) (caps : List SV) : SV.lend hp ks t (.fn f caps) = .fn f (stripL caps) := by simp [SV.lend, SV.strip]
@[simp] theorem back_fn (args : List SV) (f : Nat) (caps : List SV) : SV.back args (.fn f caps) = .fn f (stripL caps) := by simp [SV.back, SV.strip]
@[simp] theorem lend_nilf (hp : List Ob) (ks : List Nat) (t : Nat)  : SV.lend hp ks t .nilf = .nilf := by simp [SV.lend, SV.strip]
@[simp] theorem back_nilf (args : List SV)  : SV.back args .nilf = .nilf := by simp [SV.back, SV.strip]
@[simp] theorem back_ro (args : List SV) (t : Nat) (c : RC) : SV.back args (.ro t c) = roArg t c args[t]? := rfl
@[simp] theorem roArg_ro (t u : Nat) (c d : RC) : roArg t c (some (.ro u d)) = .ro u c := rfl
@[simp] theorem avlend_one (hp : List Ob) (ks : List Nat) (t : Nat) (v : SV) : AV.lend hp ks t (.one v) = .one (v.lend hp ks t) := rfl
@[simp] theorem avlend_agg (hp : List Ob) (ks : List Nat) (t : Nat) (l : List SV) : AV.lend hp ks t (.agg l) = .agg (lendL hp ks t l) := rfl
@[simp] theorem tag_cells (m : Bool) (i : Nat) (g : Option Nat) (l : List SV) : Ob.tag m i (.cells g l) = .cells (some i) l := rfl
@[simp] theorem tag_rows (i : Nat) (g : Option Nat) (c : RC) : Ob.tag false i (.rows g c) = .rows none c := rfl
@[simp] theorem tag_rowsT (i : Nat) (g : Option Nat) (c : RC) : Ob.tag true i (.rows g c) = .rows (some i) c := rfl
@[simp] theorem tag_dead (m : Bool) (i : Nat) : Ob.tag m i .dead = .dead := rfl
@[simp] theorem orgOf_cells (g : Option Nat) (l : List SV) : orgOf (some (.cells g l)) = g := rfl
@[simp] theorem orgOf_rows (g : Option Nat) (c : RC) : orgOf (some (.rows g c)) = g := rfl
@[simp] theorem backF_def (ks : List Nat) (n : Nat) (os : List Ob) (j : Nat) : backF ks n os j = (backKeys ks n os)[j]? := rfl
@[simp] theorem comeBack_none (hp : List Ob) (ks : List Nat) (args : List AV) : comeBack hp ks args none = none := rfl
@[simp] theorem comeBack_some (hp : List Ob) (ks : List Nat) (args : List AV) (r : AV) (os : List Ob) : comeBack hp ks args (some (r, os)) = some ((r.back (argCells args)).ren (backF ks hp.length os), layBack hp ks (backF ks hp.length os) (argCells args) os (killAll hp ks)) := rfl
@[simp] theorem callKs_def (m : Bool) (Γ : Nat → Callee) (hp : List Ob) (f : Nat) (args : List AV) (ks : List Nat) : callKs m Γ hp f args ks = comeBack hp ks args (Γ f (lendArgs hp ks 0 args) (tagAll m 0 (Go.X.pick hp (posF ks) ks))) := rfl
@[simp] theorem pureCall_def (Γ : Nat → Callee) (hp : List Ob) (f : Nat) (args : List AV) : pureCall Γ hp f args = if plainArgs args = true then plainOut hp (Γ f args []) else none := rfl
@[simp] theorem plainOut_some (hp : List Ob) (r : AV) : plainOut hp (some (r, [])) = if r.plain = true then some (r, hp) else none := rfl
@[simp] theorem plainArgs_nil  : plainArgs [] = true := rfl
@[simp] theorem plainArgs_one (v : SV) (l : List AV) : plainArgs (.one v :: l) = (v.plain && plainArgs l) := rfl
@[simp] theorem plainArgs_agg (m : List SV) (l : List AV) : plainArgs (.agg m :: l) = (plainL m && plainArgs l) := rfl
@[simp] theorem plainL_nil  : plainL [] = true := rfl
@[simp] theorem plainL_cons (v : SV) (l : List SV) : plainL (v :: l) = (v.plain && plainL l) := rfl
@[simp] theorem plainT_nil  : plainT [] = true := rfl
@[simp] theorem plainT_cons (v : AV) (l : List AV) : plainT (v :: l) = (v.plain && plainT l) := rfl
@[simp] theorem plain_int (k : IntKind) (x : Int) : SV.plain (.int k x) = true := rfl
@[simp] theorem plain_bool (b : Bool) : SV.plain (.bool b) = true := rfl
@[simp] theorem plain_str (s : ByteArray) : SV.plain (.str s) = true := rfl
@[simp] theorem plain_one (v : SV) : AV.plain (.one v) = v.plain := rfl
@[simp] theorem plain_agg (l : List SV) : AV.plain (.agg l) = plainL l := rfl
@[simp] theorem plain_tup (l : List AV) : AV.plain (.tup l) = plainT l := rfl
@[simp] theorem callee_def (Γ : Nat → Callee) (hp : List Ob) (f : Nat) (args : List AV) : callee Γ hp f args = callKs false Γ hp f args (handKs hp args) := rfl
@[simp] theorem handKs_def (hp : List Ob) (args : List AV) : handKs hp args = reachL hp 64 (handed (avsCells args)) [] := rfl
@[simp] theorem tidyKs_def (env : Env) (rts : List SV) (hp : List Ob) (ks : List Nat) : tidyKs env rts hp ks = ⟨env.ren (posF ks), renL (posF ks) rts, Go.X.pick hp (posF ks) ks⟩ := rfl
@[simp] theorem tidy_def (env : Env) (rts : List SV) (hp : List Ob) : tidy env rts hp = tidyKs env rts hp (reachL hp 64 (rts ++ envCells env) []) := rfl
@[simp] theorem head_def (live : List Nat) (env : Env) (rts : List SV) (hp : List Ob) : St.head live ⟨env, rts, hp⟩ = tidy (keep env live) rts hp := rfl
@[simp] theorem giveKs_def (v : AV) (hp : List Ob) (ks : List Nat) : giveKs v hp ks = some (v.ren (posF ks), Go.X.pick hp (posF ks) ks) := rfl
@[simp] theorem give_none (rts : List SV) (hp : List Ob) : give rts hp none = none := rfl
@[simp] theorem give_some (rts : List SV) (hp : List Ob) (l : List AV) : give rts hp (some l) = giveKs (tupOf l) hp (reachL hp 64 (rts ++ avCells (tupOf l)) []) := rfl
@[simp] theorem getO_tmp (env : Env) (t : Nat) : getO env (.tmp t) = getT t env := rfl
@[simp] theorem getO_const (env : Env) (v : AV) : getO env (.const v) = v := rfl
@[simp] theorem getS_def (env : Env) (x : AO) : getS env x = (getO env x).sv := rfl
@[simp] theorem getSo_none (env : Env) : getSo env none = none := rfl
@[simp] theorem getSo_some (env : Env) (x : AO) : getSo env (some x) = some (getS env x) := rfl
@[simp] theorem putE_some (env : Env) (d : Nat) (v : AV) : putE env (some d) v = (d, v) :: env := rfl
@[simp] theorem putE_none (env : Env) (v : AV) : putE env none v = env := rfl
@[simp] theorem sv_one (v : SV) : AV.sv (.one v) = v := rfl
@[simp] theorem sv_agg (l : List SV) : AV.sv (.agg l) = .undef := rfl
@[simp] theorem cells_one (v : SV) : AV.cells (.one v) = [v] := rfl
@[simp] theorem cells_agg (l : List SV) : AV.cells (.agg l) = l := rfl
@[simp] theorem thenC_norm (f : St → Option (Ex × St)) (st : St) : thenC f (some (.norm, st)) = f st := rfl
@[simp] theorem thenC_exit (f : St → Option (Ex × St)) (st : St) (i : Nat) : thenC f (some (.exit i, st)) = some (.exit i, st) := rfl
@[simp] theorem thenC_ret (f : St → Option (Ex × St)) (st : St) : thenC f (some (.ret, st)) = some (.ret, st) := rfl
@[simp] theorem blockC_norm (i : Nat) (st : St) : blockC i (some (.norm, st)) = some (.norm, st) := rfl
@[simp] theorem blockC_exit (i j : Nat) (st : St) : blockC i (some (.exit j, st)) = if i = j then some (.norm, st) else some (.exit j, st) := rfl
@[simp] theorem blockC_ret (i : Nat) (st : St) : blockC i (some (.ret, st)) = some (.ret, st) := rfl
@[simp] theorem normC_some (st : St) : normC (some st) = some (.norm, st) := rfl
@[simp] theorem branchC_bool (f g : St → Option (Ex × St)) (st : St) (t : Bool) : branchC f g st (.one (.bool t)) = if t = true then f st else g st := rfl
@[simp] theorem thenI_none (env : Env) (rts : List SV) (d : Option Nat) (f : St → Option St) : thenI env rts d f none = none := rfl
@[simp] theorem thenI_some (env : Env) (rts : List SV) (d : Option Nat) (f : St → Option St) (v : AV) (hp : List Ob) : thenI env rts d f (some (v, hp)) = f ⟨putE env d v, rts, hp⟩ := rfl
@[simp] theorem evIs_nil (Γ : Nat → Callee) (st : St) : evIs Γ [] st = some st := rfl
@[simp] theorem evIs_plain (Γ : Nat → Callee) (env : Env) (rts : List SV) (hp : List Ob) (dst : Option Nat) (op : AOp) (l : List AI) : evIs Γ (⟨dst, none, op⟩ :: l) ⟨env, rts, hp⟩ = thenI env rts dst (evIs Γ l) (evOp Γ env hp op) := rfl
@[simp] theorem evIs_guard (Γ : Nat → Callee) (env : Env) (rts : List SV) (hp : List Ob) (dst : Option Nat) (t : Nat) (b : Bool) (op : AOp) (l : List AI) : evIs Γ (⟨dst, some (t, b), op⟩ :: l) ⟨env, rts, hp⟩ = guardI b (thenI env rts dst (evIs Γ l) (evOp Γ env hp op)) (evIs Γ l ⟨putE env dst (.tup []), rts, hp⟩) (getT t env) := rfl
@[simp] theorem stepI_plain (Γ : Nat → Callee) (env : Env) (hp : List Ob) (d : Option Nat) (op : AOp) : stepI Γ env hp ⟨d, none, op⟩ = evOp Γ env hp op := rfl
@[simp] theorem stepI_guard (Γ : Nat → Callee) (env : Env) (hp : List Ob) (d : Option Nat) (t : Nat) (b : Bool) (op : AOp) : stepI Γ env hp ⟨d, some (t, b), op⟩ = stepG b (evOp Γ env hp op) hp (getT t env) := rfl
@[simp] theorem stepG_bool (b c : Bool) (r : Res) (hp : List Ob) : stepG b r hp (.one (.bool c)) = if c = b then r else some (.tup [], hp) := rfl
@[simp] theorem stepG_skip (b : Bool) (r : Res) (hp : List Ob) : stepG b r hp (.tup []) = some (.tup [], hp) := rfl
@[simp] theorem thenD_none (d : Option Nat) (b : Bool) (f : Env → List Ob → List (List Ob) → ResD) (env : Env) (hs : List (List Ob)) : thenD d b f env hs none = none := rfl
@[simp] theorem thenD_some (d : Option Nat) (b : Bool) (f : Env → List Ob → List (List Ob) → ResD) (env : Env) (hs : List (List Ob)) (v : AV) (hp : List Ob) : thenD d b f env hs (some (v, hp)) = f (putE env d v) hp (if b = true then hs ++ [hp] else hs) := rfl
@[simp] theorem ckAt_some (Γ : Nat → Callee) (env : Env) (hs : List (List Ob)) (ks : List Nat) (d : Nat) (g : Option (Nat × Bool)) (op : AOp) (b : Bool) : ckAt Γ env hs ks (some (⟨some d, g, op⟩, b)) = ckKs Γ env hs ⟨some d, g, op⟩ (getT d env) ks := rfl
@[simp] theorem ckR_none (v : AV) : ckR v none = false := rfl
@[simp] theorem ckR_some (v u : AV) (hp : List Ob) : ckR v (some (u, hp)) = u.same v := rfl
@[simp] theorem finD_none (Γ : Nat → Callee) (l : List (AI × Bool)) (ck : List (Nat × List Nat)) (rts : List SV) : finD Γ l ck rts none = none := rfl
@[simp] theorem oAppZ_int (hp : List Ob) (c0 : RC) (zero : List Sc) (bytes : Nat) (s : SV) (k : IntKind) (l : Int) : oAppZ hp c0 zero bytes s (.one (.int k l)) = if 0 ≤ l ∧ l * bytes ≤ 140737488355328 then app1 hp c0 bytes s .undef (RC.ofElems c0 (List.replicate l.toNat zero)) else none := rfl
@[simp] theorem repl1_none (n0 : Nat) (ai : AI) (b : Bool) : repl1 n0 (ai, b, none) = (ai, b) := rfl
@[simp] theorem repl1_some (n0 j : Nat) (d : Option Nat) (g : Option (Nat × Bool)) (op : AOp) (b : Bool) : repl1 n0 (⟨d, g, op⟩, b, some j) = (⟨d, none, .mv (.const (.one (fval (n0 + j) op)))⟩, false) := rfl
@[simp] theorem rowOf_some (c : RC) : rowOf (some (.one (.row 0), [.rows none c])) = some (.r c) := rfl
@[simp] theorem rowOf_ptr (l : List SV) : rowOf (some (.one (.ptr 0 0), [.cells none l])) = zO (fvsOf l) := rfl
@[simp] theorem zO_some (l : List FV) : zO (some l) = some (.z l) := rfl
@[simp] theorem foob_r (c : RC) : FO.ob (.r c) = .rows none c := rfl
@[simp] theorem foob_z (l : List FV) : FO.ob (.z l) = .cells none (l.map FV.sv) := rfl
@[simp] theorem consO_some (c : FO) (l : List FO) : consO c (some l) = some (c :: l) := rfl
@[simp] theorem passN_some (d : Option Nat) (f : Env → List Ob → Option (List FO)) (env : Env) (v : AV) (hp : List Ob) : passN d f env (some (v, hp)) = f (putE env d v) hp := rfl
@[simp] theorem passR_some (d : Option Nat) (s : Nat) (v : SV) (f : Env → List Ob → Option (List FO)) (env : Env) (hp : List Ob) (c : FO) : passR d s v f env hp (some c) = consO c (f (putE env d (.one v)) (hp.set s c.ob)) := rfl
@[simp] theorem passF_nil (Γ : Nat → Callee) (n0 : Nat) (env : Env) (hp : List Ob) : passF Γ n0 [] env hp = some [] := rfl
@[simp] theorem passF_none (Γ : Nat → Callee) (n0 : Nat) (d : Option Nat) (g : Option (Nat × Bool)) (op : AOp) (b : Bool) (l : List (AI × Bool × Option Nat)) (env : Env) (hp : List Ob) : passF Γ n0 ((⟨d, g, op⟩, b, none) :: l) env hp = passN d (passF Γ n0 l) env (stepI Γ env hp ⟨d, g, op⟩) := rfl
@[simp] theorem passF_some (Γ : Nat → Callee) (n0 j : Nat) (d : Option Nat) (g : Option (Nat × Bool)) (op : AOp) (b : Bool) (l : List (AI × Bool × Option Nat)) (env : Env) (hp : List Ob) : passF Γ n0 ((⟨d, g, op⟩, b, some j) :: l) env hp = passR d (n0 + j) (fval (n0 + j) op) (passF Γ n0 l) env hp (rowOf (evOp Γ env [] op)) := rfl
@[simp] theorem obIs_some (c : FO) (d : RC) : obIs c (some (.rows none d)) = rcIs c (some (.r d)) := rfl
@[simp] theorem obIs_cells (c : FO) (l : List SV) : obIs c (some (.cells none l)) = rcIs c (zO (fvsOf l)) := rfl
@[simp] theorem rcIs_some (c d : FO) : rcIs c (some d) = decide (d = c) := rfl
@[simp] theorem ckF1_some (Γ : Nat → Callee) (env : Env) (c : FO) (d : Option Nat) (g : Option (Nat × Bool)) (op : AOp) (b : Bool × Option Nat) : ckF1 Γ env c (some (⟨d, g, op⟩, b)) = rcIs c (rowOf (evOp Γ env [] op)) := rfl
@[simp] theorem finF_none (Γ : Nat → Callee) (l : List (AI × Bool × Option Nat)) (n0 : Nat) (cs : List FO) (cf : List (Nat × List Nat)) : finF Γ l n0 cs cf none = none := rfl
@[simp] theorem secP_def (Γ : Nat → Callee) (l : List (AI × Bool × Option Nat)) (ck cf : List (Nat × List Nat)) (env : Env) (rts : List SV) (hp : List Ob) : secP Γ l ck cf env rts hp = secF Γ l ck cf env rts hp (passF Γ hp.length l env (hp ++ deads cf)) := rfl
@[simp] theorem secF_some (Γ : Nat → Callee) (l : List (AI × Bool × Option Nat)) (ck cf : List (Nat × List Nat)) (env : Env) (rts : List SV) (hp : List Ob) (cs : List FO) : secF Γ l ck cf env rts hp (some cs) = if bareB hp l = true then none else finD Γ (l.map (repl1 hp.length)) ck rts (finF Γ l hp.length cs cf (evDs Γ (l.map (repl1 hp.length)) env (hp ++ rowsOf cs) [hp ++ rowsOf cs])) := rfl
@[simp] theorem tupOf_nil  : tupOf [] = .tup [] := rfl
@[simp] theorem thenC_none (f : St → Option (Ex × St)) : thenC f none = none := rfl
@[simp] theorem blockC_none (i : Nat) : blockC i none = none := rfl
@[simp] theorem normC_none  : normC none = none := rfl
@[simp] theorem guardI_skip (b : Bool) (x y : Option St) : guardI b x y (.tup []) = y := rfl
@[simp] theorem guardI_bool (b c : Bool) (x y : Option St) : guardI b x y (.one (.bool c)) = if c = b then x else y := rfl
@[simp] theorem put1_none (hp : List Ob) : put1 hp none = none := rfl
@[simp] theorem put1_some (hp : List Ob) (v : SV) : put1 hp (some v) = some (.one v, hp) := rfl
@[simp] theorem putA_none (hp : List Ob) : putA hp none = none := rfl
@[simp] theorem putA_some (hp : List Ob) (v : AV) : putA hp (some v) = some (v, hp) := rfl
@[simp] theorem putL_none (hp : List Ob) : putL hp none = none := rfl
@[simp] theorem putL_some (hp : List Ob) (v : List SV) : putL hp (some v) = some (.agg v, hp) := rfl
@[simp] theorem putR_none (hp : List Ob) : putR hp none = none := rfl
@[simp] theorem putR_some (hp : List Ob) (v : RC) : putR hp (some v) = newRow hp v := rfl
@[simp] theorem putH_none  : putH none = none := rfl
@[simp] theorem putH_some (h : List Ob) : putH (some h) = some (.one .undef, h) := rfl
@[simp] theorem putB_none (hp : List Ob) (n : Bool) : putB hp n none = none := rfl
@[simp] theorem putB_some (hp : List Ob) (n b : Bool) : putB hp n (some b) = some (.one (.bool (if n = true then !b else b)), hp) := rfl
@[simp] theorem evOp_mv (Γ : Nat → Callee) (env : Env) (hp : List Ob) (x : AO) : evOp Γ env hp (.mv x) = some (getO env x, hp) := rfl
@[simp] theorem evOp_newNil (Γ : Nat → Callee) (env : Env) (hp : List Ob) (c0 : RC) : evOp Γ env hp (.newNil c0) = newRow hp c0 := rfl
@[simp] theorem evOp_pick (Γ : Nat → Callee) (env : Env) (hp : List Ob) (a b c : AO) : evOp Γ env hp (.pick c a b) = oPick hp (getO env a) (getO env b) (getO env c) := rfl
@[simp] theorem evOp_alloc (Γ : Nat → Callee) (env : Env) (hp : List Ob) (z : List ZV) : evOp Γ env hp (.alloc z) = some (.one (.ptr (zcells z hp).2.length 0), (zcells z hp).2 ++ [.cells none (zcells z hp).1]) := rfl
@[simp] theorem evOp_box (Γ : Nat → Callee) (env : Env) (hp : List Ob) (x : AO) : evOp Γ env hp (.box x) = if (getO env x).cells.all okCell = true then some (.one (.ptr hp.length 0), hp ++ [.cells none (getO env x).cells]) else none := rfl
@[simp] theorem evOp_build (Γ : Nat → Callee) (env : Env) (hp : List Ob) (z : List ZV) (ps : List ((Nat × Nat) × AO)) : evOp Γ env hp (.build z ps) = if (getPP env ps).all (fun q => q.2.cells.all okCell) = true then putL (zcells z hp).2 (fillAll (zcells z hp).1 (getPP env ps)) else none := rfl
@[simp] theorem evOp_bslice (Γ : Nat → Callee) (env : Env) (hp : List Ob) (c0 : RC) (zero : List Sc) (len : Nat) (ps : List (Nat × AO)) : evOp Γ env hp (.bslice c0 zero len ps) = putR hp (ofElemsO c0 (bsFrom zero (getPs env ps) 0 len)) := rfl
@[simp] theorem evOp_load (Γ : Nat → Callee) (env : Env) (hp : List Ob) (x : AO) : evOp Γ env hp (.load none x) = put1 hp (loadOne hp (getS env x)) := rfl
@[simp] theorem evOp_load1 (Γ : Nat → Callee) (env : Env) (hp : List Ob) (n : Nat) (x : AO) : evOp Γ env hp (.load (some n) x) = putL hp (loadN hp n (getS env x)) := rfl
@[simp] theorem evOp_store (Γ : Nat → Callee) (env : Env) (hp : List Ob) (n : Nat) (x v : AO) : evOp Γ env hp (.store n x v) = if (getO env v).cells.length = n then putH (storeCells hp (getO env v).cells (getS env x)) else none := rfl
@[simp] theorem evOp_storeNil (Γ : Nat → Callee) (env : Env) (hp : List Ob) (c0 : RC) (x : AO) : evOp Γ env hp (.storeNil c0 x) = putH (storeCells (hp ++ [.rows none c0]) [.row hp.length] (getS env x)) := rfl
@[simp] theorem evOp_nilCheck (Γ : Nat → Callee) (env : Env) (hp : List Ob) (x : AO) : evOp Γ env hp (.nilCheck x) = oNilCheck hp (getO env x) := rfl
@[simp] theorem evOp_bin (Γ : Nat → Callee) (env : Env) (hp : List Ob) (op : BinOp) (x y : AO) : evOp Γ env hp (.bin op x y) = put1 hp (Go.X.bin op (getS env x) (getS env y)) := rfl
@[simp] theorem evOp_eqNil (Γ : Nat → Callee) (env : Env) (hp : List Ob) (neq : Bool) (x : AO) : evOp Γ env hp (.eqNil neq x) = oEqNil hp neq (getO env x) := rfl
@[simp] theorem evOp_eqAgg (Γ : Nat → Callee) (env : Env) (hp : List Ob) (neq : Bool) (z : List Sc) (x y : AO) : evOp Γ env hp (.eqAgg neq z x y) = oEqAgg hp neq z (getO env x) (getO env y) := rfl
@[simp] theorem evOp_eqB (Γ : Nat → Callee) (env : Env) (hp : List Ob) (neq : Bool) (x y : AO) : evOp Γ env hp (.eqB neq x y) = oEqB hp neq (getO env x) (getO env y) := rfl
@[simp] theorem evOp_un (Γ : Nat → Callee) (env : Env) (hp : List Ob) (op : UnOp) (x : AO) : evOp Γ env hp (.un op x) = put1 hp (Go.X.un op (getS env x)) := rfl
@[simp] theorem evOp_conv (Γ : Nat → Callee) (env : Env) (hp : List Ob) (k : IntKind) (x : AO) : evOp Γ env hp (.conv k x) = oConv hp k (getO env x) := rfl
@[simp] theorem evOp_sconv (Γ : Nat → Callee) (env : Env) (hp : List Ob) (x : AO) : evOp Γ env hp (.sconv x) = oSconv hp (getO env x) := rfl
@[simp] theorem evOp_s2b (Γ : Nat → Callee) (env : Env) (hp : List Ob) (x : AO) : evOp Γ env hp (.s2b x) = oS2b hp (getO env x) := rfl
@[simp] theorem evOp_b2s (Γ : Nat → Callee) (env : Env) (hp : List Ob) (x : AO) : evOp Γ env hp (.b2s x) = oB2s hp (content hp (getS env x)) := rfl
@[simp] theorem evOp_cutS (Γ : Nat → Callee) (env : Env) (hp : List Ob) (x : AO) (lo hi : Option AO) : evOp Γ env hp (.cutS x lo hi) = oCutS hp (getSo env lo) (getSo env hi) (getO env x) := rfl
@[simp] theorem evOp_cutR (Γ : Nat → Callee) (env : Env) (hp : List Ob) (size : Nat) (x : AO) (lo hi : Option AO) : evOp Γ env hp (.cutR size x lo hi) = if Go.X.sizeOf hp (getS env x) = some size then oCutR hp (getSo env lo) (getSo env hi) (getS env x) (lenOf hp (getS env x)) else none := rfl
@[simp] theorem evOp_cutA (Γ : Nat → Callee) (env : Env) (hp : List Ob) (n : Nat) (x : AO) (lo hi : Option AO) : evOp Γ env hp (.cutA n x lo hi) = oCutA hp n (getSo env lo) (getSo env hi) (getO env x) := rfl
@[simp] theorem evOp_fadr (Γ : Nat → Callee) (env : Env) (hp : List Ob) (off : Nat) (x : AO) : evOp Γ env hp (.fadr off x) = oFadr hp off (getO env x) := rfl
@[simp] theorem evOp_fld (Γ : Nat → Callee) (env : Env) (hp : List Ob) (off : Nat) (n : Option Nat) (x : AO) : evOp Γ env hp (.fld off n x) = oFld hp off n (getO env x) := rfl
@[simp] theorem evOp_iadrR (Γ : Nat → Callee) (env : Env) (hp : List Ob) (size : Nat) (x i : AO) : evOp Γ env hp (.iadrR size x i) = if Go.X.sizeOf hp (getS env x) = some size then oIadrR hp (getS env x) (lenOf hp (getS env x)) (getO env i) else none := rfl
@[simp] theorem evOp_iadrA (Γ : Nat → Callee) (env : Env) (hp : List Ob) (len size : Nat) (x i : AO) : evOp Γ env hp (.iadrA len size x i) = oIadrA hp len size (getO env x) (getO env i) := rfl
@[simp] theorem evOp_idxA (Γ : Nat → Callee) (env : Env) (hp : List Ob) (len size : Nat) (n : Option Nat) (x i : AO) : evOp Γ env hp (.idxA len size n x i) = oIdxA hp len size n (getO env x) (getO env i) := rfl
@[simp] theorem evOp_idxS (Γ : Nat → Callee) (env : Env) (hp : List Ob) (x i : AO) : evOp Γ env hp (.idxS x i) = oIdxS hp (getO env x) (getO env i) := rfl
@[simp] theorem evOp_extract (Γ : Nat → Callee) (env : Env) (hp : List Ob) (i : Nat) (x : AO) : evOp Γ env hp (.extract i x) = oExtract hp i (getO env x) := rfl
@[simp] theorem evOp_call (Γ : Nat → Callee) (env : Env) (hp : List Ob) (f : Nat) (args : List AO) : evOp Γ env hp (.call f args) = callee Γ hp f (getL env args) := rfl
@[simp] theorem evOp_callo (Γ : Nat → Callee) (env : Env) (hp : List Ob) (f : Nat) (args : List AO) : evOp Γ env hp (.callo f args) = callKs false Γ hp f (getL env args) (reachL hp 64 (avsCells (getL env args)) []) := rfl
@[simp] theorem evOp_calli (Γ : Nat → Callee) (env : Env) (hp : List Ob) (f : Nat) (args : List AO) : evOp Γ env hp (.calli f args) = callKs true Γ hp f (getL env args) (reachL hp 64 (avsCells (getL env args)) []) := rfl
@[simp] theorem evOp_pcall (Γ : Nat → Callee) (env : Env) (hp : List Ob) (f : Nat) (args : List AO) : evOp Γ env hp (.pcall f args) = pureCall Γ hp f (getL env args) := rfl
@[simp] theorem evOp_callv (Γ : Nat → Callee) (env : Env) (hp : List Ob) (x : AO) (args : List AO) : evOp Γ env hp (.callv x args) = oCallv Γ hp (getL env args) (getO env x) := rfl
@[simp] theorem evOp_lenS (Γ : Nat → Callee) (env : Env) (hp : List Ob) (x : AO) : evOp Γ env hp (.lenS x) = oLenS hp (getO env x) := rfl
@[simp] theorem evOp_len (Γ : Nat → Callee) (env : Env) (hp : List Ob) (x : AO) : evOp Γ env hp (.len x) = oLen hp (lenOf hp (getS env x)) := rfl
@[simp] theorem evOp_append (Γ : Nat → Callee) (env : Env) (hp : List Ob) (c0 : RC) (bytes : Nat) (s x : AO) : evOp Γ env hp (.append c0 bytes s x) = Go.X.append hp c0 bytes (getS env s) (getS env x) := rfl
@[simp] theorem evOp_min (Γ : Nat → Callee) (env : Env) (hp : List Ob) (l : List AO) : evOp Γ env hp (.min l) = oMin hp (getL env l) := rfl
@[simp] theorem evOp_max (Γ : Nat → Callee) (env : Env) (hp : List Ob) (l : List AO) : evOp Γ env hp (.max l) = oMax hp (getL env l) := rfl
@[simp] theorem evOp_mkfn (Γ : Nat → Callee) (env : Env) (hp : List Ob) (f : Nat) (caps : List AO) : evOp Γ env hp (.mkfn f caps) = some (.one (.fn f (getSL env caps)), hp) := rfl
@[simp] theorem evOp_appZ (Γ : Nat → Callee) (env : Env) (hp : List Ob) (c0 : RC) (zero : List Sc) (bytes : Nat) (s x : AO) : evOp Γ env hp (.appZ c0 zero bytes s x) = oAppZ hp c0 zero bytes (getS env s) (getO env x) := rfl
@[simp] theorem evOp_mks (Γ : Nat → Callee) (env : Env) (hp : List Ob) (c0 : RC) (zero : List Sc) (bytes : Nat) (len cap : AO) : evOp Γ env hp (.mks c0 zero bytes len cap) = oMks hp c0 zero bytes (getO env len) (getO env cap) := rfl
@[simp] theorem evOp_copy (Γ : Nat → Callee) (env : Env) (hp : List Ob) (d s : AO) : evOp Γ env hp (.copy d s) = oCopy hp (getS env d) (getS env s) := rfl
@[simp] theorem evOp_bad (Γ : Nat → Callee) (env : Env) (hp : List Ob) : evOp Γ env hp .bad = none := rfl
@[simp] theorem oCopy_cview (hp : List Ob) (k o n j p m : Nat) : oCopy hp (.cview k o n) (.cview j p m) = copyV hp k o (Nat.min m n) (loadPN (hp[j]?) (Nat.min m n) p) := rfl
@[simp] theorem oCopy_row (hp : List Ob) (k : Nat) (s : SV) : oCopy hp (.row k) s = copyS hp k 0 (lenAt (hp[k]?)) (content hp s) := rfl
@[simp] theorem oCopy_view (hp : List Ob) (k o n : Nat) (s : SV) : oCopy hp (.view k o n) s = copyS hp k o (some n) (content hp s) := rfl
@[simp] theorem copyS_some (hp : List Ob) (k o n : Nat) (y : RC) : copyS hp k o (some n) (some y) = copyT hp k o n y (hp[k]?) := rfl
@[simp] theorem copyT_rows (hp : List Ob) (k o n : Nat) (y : RC) (g : Option Nat) (c : RC) : copyT hp k o n y (some (.rows g c)) = copyB hp k g (Nat.min y.len n) (c.blit o (y.cut 0 (Nat.min y.len n))) := rfl
@[simp] theorem copyB_some (hp : List Ob) (k : Nat) (g : Option Nat) (m : Nat) (c : RC) : copyB hp k g m (some c) = some (.one (.int .i64 m), hp.set k (.rows g c)) := rfl
@[simp] theorem copyV_none (hp : List Ob) (k o n : Nat) : copyV hp k o n none = none := rfl
@[simp] theorem copyV_some (hp : List Ob) (k o n : Nat) (vs : List SV) : copyV hp k o n (some vs) = copyR n (storeP hp k vs o (hp[k]?)) := rfl
@[simp] theorem copyR_none (n : Nat) : copyR n none = none := rfl
@[simp] theorem copyR_some (n : Nat) (h : List Ob) : copyR n (some h) = some (.one (.int .i64 n), h) := rfl
@[simp] theorem newRow_def (hp : List Ob) (c : RC) : newRow hp c = some (.one (.row hp.length), hp ++ [.rows none c]) := rfl
@[simp] theorem append_def (hp : List Ob) (c0 : RC) (bytes : Nat) (s x : SV) : Go.X.append hp c0 bytes s x = app1 hp c0 bytes s x (source hp c0 x) := rfl
@[simp] theorem app1_some (hp : List Ob) (c0 : RC) (bytes : Nat) (s x : SV) (y : RC) : app1 hp c0 bytes s x (some y) = app2 hp c0 bytes s x y := rfl
@[simp] theorem app2_nils (hp : List Ob) (c0 c : RC) (bytes : Nat) (x : SV) (y : RC) : app2 hp c0 bytes (.nils c) x y = if y.len * bytes ≤ 140737488355328 ∧ y.size = c0.size then putR hp (RC.app c0 y) else none := rfl
@[simp] theorem app2_row (hp : List Ob) (c0 : RC) (bytes k : Nat) (x : SV) (y : RC) : app2 hp c0 bytes (.row k) x y = if keyOf x = some k then none else app3 hp c0 bytes k y (rowAt (hp[k]?)) := rfl
@[simp] theorem app2_view (hp : List Ob) (c0 : RC) (bytes k o n : Nat) (x : SV) (y : RC) : app2 hp c0 bytes (.view k o n) x y = if keyOf x = some k then none else app3 hp c0 bytes k y (cutAt o n (hp[k]?)) := rfl
@[simp] theorem app3_some (hp : List Ob) (c0 : RC) (bytes k : Nat) (y c : RC) : app3 hp c0 bytes k y (some c) = if (c.len + y.len) * bytes ≤ 140737488355328 ∧ c.size = c0.size ∧ y.size = c0.size then putR (hp.set k .dead) (c.app y) else none := rfl
@[simp] theorem ofElemsO_some (c0 : RC) (l : List (List Sc)) : ofElemsO c0 (some l) = RC.ofElems c0 l := rfl
@[simp] theorem resC_norm (rs : List (Nat × Option (Option Nat))) (env : Env) (rts : List SV) (hp : List Ob) : resC rs (some (.norm, ⟨env, rts, hp⟩)) = give rts hp (resL env hp rs) := rfl
@[simp] theorem resC_ret (rs : List (Nat × Option (Option Nat))) (env : Env) (rts : List SV) (hp : List Ob) : resC rs (some (.ret, ⟨env, rts, hp⟩)) = give rts hp (resL env hp rs) := rfl
@[simp] theorem resC_none (rs : List (Nat × Option (Option Nat))) : resC rs none = none := rfl
@[simp] theorem resOf_tmp (env : Env) (hp : List Ob) (t : Nat) : resOf env hp (t, none) = some (getT t env) := rfl
@[simp] theorem resOf_one (env : Env) (hp : List Ob) (t : Nat) : resOf env hp (t, some none) = oneAV (loadOne hp (getT t env).sv) := rfl
@[simp] theorem resOf_agg (env : Env) (hp : List Ob) (t n : Nat) : resOf env hp (t, some (some n)) = aggAV (loadN hp n (getT t env).sv) := rfl
@[simp] theorem evF_def (Γ : Nat → Callee) (K : Nat) (f : AF) (args : List AV) (hp : List Ob) : evF Γ K f args hp = resC f.results (evC Γ K f.body ⟨argEnv 0 args, avsCells args, hp⟩) := rfl
@[simp] theorem oPick_bool (hp : List Ob) (a b : AV) (t : Bool) : oPick hp a b (.one (.bool t)) = some (if t = true then a else b, hp) := rfl
@[simp] theorem oNilCheck_ptr (hp : List Ob) (k o : Nat) : oNilCheck hp (.one (.ptr k o)) = some (.one (.ptr k o), hp) := rfl
@[simp] theorem oNilCheck_eptr (hp : List Ob) (k i o : Nat) : oNilCheck hp (.one (.eptr k i o)) = some (.one (.eptr k i o), hp) := rfl
@[simp] theorem oNilCheck_rptr (hp : List Ob) (t : Nat) (c : RC) (i o : Nat) : oNilCheck hp (.one (.rptr t c i o)) = some (.one (.rptr t c i o), hp) := rfl
@[simp] theorem oNilCheck_fn (hp : List Ob) (f : Nat) (caps : List SV) : oNilCheck hp (.one (.fn f caps)) = some (.one (.fn f caps), hp) := rfl
@[simp] theorem oNilCheck_nilp (hp : List Ob) : oNilCheck hp (.one .nilp) = none := rfl
@[simp] theorem oEqNil_nilp (hp : List Ob) (neq : Bool) : oEqNil hp neq (.one .nilp) = some (.one (.bool (!neq)), hp) := rfl
@[simp] theorem oEqNil_ptr (hp : List Ob) (neq : Bool) (k o : Nat) : oEqNil hp neq (.one (.ptr k o)) = some (.one (.bool neq), hp) := rfl
@[simp] theorem oEqNil_eptr (hp : List Ob) (neq : Bool) (k i o : Nat) : oEqNil hp neq (.one (.eptr k i o)) = some (.one (.bool neq), hp) := rfl
@[simp] theorem oEqAgg_agg (hp : List Ob) (neq : Bool) (z : List Sc) (l m : List SV) : oEqAgg hp neq z (.agg l) (.agg m) = putB hp neq (eqScs z l m) := rfl
@[simp] theorem oConv_int (hp : List Ob) (k j : IntKind) (n : Int) : oConv hp k (.one (.int j n)) = some (.one (.int k (k.wrap n)), hp) := rfl
@[simp] theorem oSconv_str (hp : List Ob) (s : ByteArray) : oSconv hp (.one (.str s)) = some (.one (.str s), hp) := rfl
@[simp] theorem oS2b_str (hp : List Ob) (s : ByteArray) : oS2b hp (.one (.str s)) = if s.size ≤ 140737488355328 then newRow hp (.ints .u8 (toBytes s)) else none := rfl
@[simp] theorem oB2s_ints (hp : List Ob) (xs : List Int) : oB2s hp (some (.ints .u8 xs)) = some (.one (.str (ofBytes xs)), hp) := rfl
@[simp] theorem optInt_none (d : Nat) : optInt d none = some (d : Int) := rfl
@[simp] theorem optInt_int (d : Nat) (k : IntKind) (z : Int) : optInt d (some (.int k z)) = some z := rfl
@[simp] theorem oCutS_str (hp : List Ob) (lo hi : Option SV) (s : ByteArray) : oCutS hp lo hi (.one (.str s)) = cutS2 hp s (optInt 0 lo) (optInt s.size hi) := rfl
@[simp] theorem cutS2_some (hp : List Ob) (s : ByteArray) (a b : Int) : cutS2 hp s (some a) (some b) = if 0 ≤ a ∧ a ≤ b ∧ b ≤ s.size then some (.one (.str (s.extract a.toNat b.toNat)), hp) else none := rfl
@[simp] theorem oCutR_some (hp : List Ob) (lo hi : Option SV) (x : SV) (n : Nat) : oCutR hp lo hi x (some n) = cutR2 hp x n (optInt 0 lo) (optInt n hi) := rfl
@[simp] theorem cutR2_some (hp : List Ob) (x : SV) (n : Nat) (a b : Int) : cutR2 hp x n (some a) (some b) = if 0 ≤ a ∧ a ≤ b ∧ b ≤ n then put1 hp (cutSV a.toNat (b.toNat - a.toNat) x) else none := rfl
@[simp] theorem cutSV_row (a n k : Nat) : cutSV a n (.row k) = some (.view k a n) := rfl
@[simp] theorem cutSV_view (a n k o m : Nat) : cutSV a n (.view k o m) = some (.view k (o + a) n) := rfl
@[simp] theorem cutSV_cview (a n k o m : Nat) : cutSV a n (.cview k o m) = some (.cview k (o + a) n) := rfl
@[simp] theorem cutSV_ro (a n t : Nat) (c : RC) : cutSV a n (.ro t c) = some (.ro t (c.cut a n)) := rfl
@[simp] theorem cutSV_nils (a n : Nat) (c : RC) : cutSV a n (.nils c) = some (.nils c) := rfl
@[simp] theorem oCutA_ptr (hp : List Ob) (n : Nat) (lo hi : Option SV) (k o : Nat) : oCutA hp n lo hi (.one (.ptr k o)) = cutA2 hp n k o (optInt 0 lo) (optInt n hi) := rfl
@[simp] theorem cutA2_some (hp : List Ob) (n k o : Nat) (a b : Int) : cutA2 hp n k o (some a) (some b) = if 0 ≤ a ∧ a ≤ b ∧ b ≤ n then some (.one (.cview k (o + a.toNat) (b.toNat - a.toNat)), hp) else none := rfl
@[simp] theorem oFadr_ptr (hp : List Ob) (off k o : Nat) : oFadr hp off (.one (.ptr k o)) = some (.one (.ptr k (o + off)), hp) := rfl
@[simp] theorem oFadr_eptr (hp : List Ob) (off k i o : Nat) : oFadr hp off (.one (.eptr k i o)) = some (.one (.eptr k i (o + off)), hp) := rfl
@[simp] theorem oFadr_rptr (hp : List Ob) (off t : Nat) (c : RC) (i o : Nat) : oFadr hp off (.one (.rptr t c i o)) = some (.one (.rptr t c i (o + off)), hp) := rfl
@[simp] theorem oFld_agg (hp : List Ob) (off : Nat) (n : Option Nat) (l : List SV) : oFld hp off n (.agg l) = putA hp (takeAV l off n) := rfl
@[simp] theorem takeAV_none (l : List SV) (off : Nat) : takeAV l off none = (l[off]?).map AV.one := rfl
@[simp] theorem takeAV_some (l : List SV) (off n : Nat) : takeAV l off (some n) = if off + n ≤ l.length then some (.agg ((l.drop off).take n)) else none := rfl
@[simp] theorem elemPtr_row (i k : Nat) : elemPtr i (.row k) = some (.eptr k i 0) := rfl
@[simp] theorem elemPtr_view (i k o n : Nat) : elemPtr i (.view k o n) = some (.eptr k (o + i) 0) := rfl
@[simp] theorem elemPtr_cview (i k o n : Nat) : elemPtr i (.cview k o n) = some (.ptr k (o + i)) := rfl
@[simp] theorem elemPtr_ro (i t : Nat) (c : RC) : elemPtr i (.ro t c) = some (.rptr t c i 0) := rfl
@[simp] theorem oIadrR_some (hp : List Ob) (x : SV) (n : Nat) (k : IntKind) (i : Int) : oIadrR hp x (some n) (.one (.int k i)) = if inBounds i n = true then put1 hp (elemPtr i.toNat x) else none := rfl
@[simp] theorem oIadrA_ptr (hp : List Ob) (len size k o : Nat) (j : IntKind) (i : Int) : oIadrA hp len size (.one (.ptr k o)) (.one (.int j i)) = if inBounds i len = true then some (.one (.ptr k (o + i.toNat * size)), hp) else none := rfl
@[simp] theorem oIdxA_agg (hp : List Ob) (len size : Nat) (n : Option Nat) (l : List SV) (j : IntKind) (i : Int) : oIdxA hp len size n (.agg l) (.one (.int j i)) = if inBounds i len = true then putA hp (takeAV l (i.toNat * size) n) else none := rfl
@[simp] theorem oIdxS_str (hp : List Ob) (s : ByteArray) (j : IntKind) (i : Int) : oIdxS hp (.one (.str s)) (.one (.int j i)) = if inBounds i s.size = true then some (.one (.int .u8 ((toBytes s).getD i.toNat 0)), hp) else none := rfl
@[simp] theorem oExtract_tup (hp : List Ob) (i : Nat) (l : List AV) : oExtract hp i (.tup l) = putA hp l[i]? := rfl
@[simp] theorem oCallv_fn (Γ : Nat → Callee) (hp : List Ob) (args : List AV) (f : Nat) (caps : List SV) : oCallv Γ hp args (.one (.fn f caps)) = callKs true Γ hp f (args ++ caps.map AV.one) (handKs hp (args ++ caps.map AV.one)) := rfl
@[simp] theorem oLen_some (hp : List Ob) (n : Nat) : oLen hp (some n) = some (.one (.int .i64 n), hp) := rfl
@[simp] theorem oMin_two (hp : List Ob) (k j : IntKind) (x y : Int) : oMin hp [.one (.int k x), .one (.int j y)] = some (.one (.int k (if y < x then y else x)), hp) := rfl
@[simp] theorem oMax_two (hp : List Ob) (k j : IntKind) (x y : Int) : oMax hp [.one (.int k x), .one (.int j y)] = some (.one (.int k (if x < y then y else x)), hp) := rfl
@[simp] theorem oMks_int (hp : List Ob) (c0 : RC) (zero : List Sc) (bytes : Nat) (k j : IntKind) (n c : Int) : oMks hp c0 zero bytes (.one (.int k n)) (.one (.int j c)) = if 0 ≤ n ∧ n ≤ c ∧ c * bytes ≤ 140737488355328 then putR hp (RC.ofElems c0 (List.replicate n.toNat zero)) else none := rfl
@[simp] theorem loadOne_eptr (hp : List Ob) (k i o : Nat) : loadOne hp (.eptr k i o) = loadE (hp[k]?) i o := rfl
@[simp] theorem loadOne_ptr (hp : List Ob) (k o : Nat) : loadOne hp (.ptr k o) = loadP (hp[k]?) o := rfl
@[simp] theorem loadOne_rptr (hp : List Ob) (t : Nat) (c : RC) (i o : Nat) : loadOne hp (.rptr t c i o) = scSV (c.get i o) := rfl
@[simp] theorem loadP_cells (g : Option Nat) (l : List SV) (o : Nat) : loadP (some (.cells g l)) o = l[o]? := rfl
@[simp] theorem loadE_rows (g : Option Nat) (c : RC) (i o : Nat) : loadE (some (.rows g c)) i o = scSV (c.get i o) := rfl
@[simp] theorem scSV_none  : scSV none = none := rfl
@[simp] theorem scSV_some (c : Sc) : scSV (some c) = some c.sv := rfl
@[simp] theorem loadN_ptr (hp : List Ob) (n k o : Nat) : loadN hp n (.ptr k o) = loadPN (hp[k]?) n o := rfl
@[simp] theorem loadN_eptr (hp : List Ob) (n k i o : Nat) : loadN hp n (.eptr k i o) = loadEN (hp[k]?) n i o := rfl
@[simp] theorem loadN_rptr (hp : List Ob) (n t : Nat) (c : RC) (i o : Nat) : loadN hp n (.rptr t c i o) = takeE c n i o := rfl
@[simp] theorem loadPN_cells (g : Option Nat) (l : List SV) (n o : Nat) : loadPN (some (.cells g l)) n o = if o + n ≤ l.length then some ((l.drop o).take n) else none := rfl
@[simp] theorem loadEN_rows (g : Option Nat) (c : RC) (n i o : Nat) : loadEN (some (.rows g c)) n i o = takeE c n i o := rfl
@[simp] theorem storeCells_ptr (hp : List Ob) (vs : List SV) (k o : Nat) : storeCells hp vs (.ptr k o) = storeP hp k vs o (hp[k]?) := rfl
@[simp] theorem storeCells_eptr (hp : List Ob) (vs : List SV) (k i o : Nat) : storeCells hp vs (.eptr k i o) = storeE hp k vs i o (hp[k]?) := rfl
@[simp] theorem storeP_cells (hp : List Ob) (g : Option Nat) (k : Nat) (vs : List SV) (o : Nat) (l : List SV) : storeP hp k vs o (some (.cells g l)) = if o + vs.length ≤ l.length ∧ vs.all okCell = true then some (hp.set k (.cells g (putAt l o vs))) else none := rfl
@[simp] theorem storeE_rows (g : Option Nat) (hp : List Ob) (k : Nat) (vs : List SV) (i o : Nat) (c : RC) : storeE hp k vs i o (some (.rows g c)) = rowsH hp k g (setScs c i o vs) := rfl
@[simp] theorem rowsH_some (g : Option Nat) (hp : List Ob) (k : Nat) (c : RC) : rowsH hp k g (some c) = some (hp.set k (.rows g c)) := rfl
@[simp] theorem rowsH_none (g : Option Nat) (hp : List Ob) (k : Nat) : rowsH hp k g none = none := rfl
@[simp] theorem sc_int (k : IntKind) (x : Int) : SV.sc (.int k x) = some (.int k x) := rfl
@[simp] theorem svsc_int (k : IntKind) (x : Int) : Sc.sv (.int k x) = .int k x := rfl
@[simp] theorem sc_bool (b : Bool) : SV.sc (.bool b) = some (.bool b) := rfl
@[simp] theorem svsc_bool (b : Bool) : Sc.sv (.bool b) = .bool b := rfl
@[simp] theorem sc_str (s : ByteArray) : SV.sc (.str s) = some (.str s) := rfl
@[simp] theorem svsc_str (s : ByteArray) : Sc.sv (.str s) = .str s := rfl
@[simp] theorem okCell_undef  : okCell .undef = false := rfl
@[simp] theorem okCell_int (k : IntKind) (x : Int) : okCell (.int k x) = true := rfl
@[simp] theorem okCell_bool (b : Bool) : okCell (.bool b) = true := rfl
@[simp] theorem okCell_str (s : ByteArray) : okCell (.str s) = true := rfl
@[simp] theorem okCell_nilp  : okCell .nilp = true := rfl
@[simp] theorem okCell_ptr (k o : Nat) : okCell (.ptr k o) = true := rfl
@[simp] theorem okCell_row (k : Nat) : okCell (.row k) = true := rfl
@[simp] theorem okCell_view (k o n : Nat) : okCell (.view k o n) = true := rfl
@[simp] theorem okCell_ro (t : Nat) (c : RC) : okCell (.ro t c) = true := rfl
@[simp] theorem okCell_fn (f : Nat) (caps : List SV) : okCell (.fn f caps) = true := rfl
@[simp] theorem okCell_nilf  : okCell .nilf = true := rfl
@[simp] theorem len_ints (k : IntKind) (xs : List (Int)) : RC.len (.ints k xs) = xs.length := rfl
@[simp] theorem size_ints (k : IntKind) (xs : List (Int)) : RC.size (.ints k xs) = 1 := rfl
@[simp] theorem cut_ints (k : IntKind) (xs : List (Int)) (a m : Nat) : RC.cut (.ints k xs) a m = .ints k ((xs.drop a).take m) := rfl
@[simp] theorem len_strs (xs : List (ByteArray)) : RC.len (.strs xs) = xs.length := rfl
@[simp] theorem size_strs (xs : List (ByteArray)) : RC.size (.strs xs) = 1 := rfl
@[simp] theorem cut_strs (xs : List (ByteArray)) (a m : Nat) : RC.cut (.strs xs) a m = .strs ((xs.drop a).take m) := rfl
@[simp] theorem len_bools (xs : List (Bool)) : RC.len (.bools xs) = xs.length := rfl
@[simp] theorem size_bools (xs : List (Bool)) : RC.size (.bools xs) = 1 := rfl
@[simp] theorem cut_bools (xs : List (Bool)) (a m : Nat) : RC.cut (.bools xs) a m = .bools ((xs.drop a).take m) := rfl
@[simp] theorem len_recs (n : Nat) (xs : List (List Sc)) : RC.len (.recs n xs) = xs.length := rfl
@[simp] theorem size_recs (n : Nat) (xs : List (List Sc)) : RC.size (.recs n xs) = n := rfl
@[simp] theorem cut_recs (n : Nat) (xs : List (List Sc)) (a m : Nat) : RC.cut (.recs n xs) a m = .recs n ((xs.drop a).take m) := rfl
@[simp] theorem get_ints (k : IntKind) (xs : List Int) (i off : Nat) : RC.get (.ints k xs) i off = if off = 0 then some (.int k (xs.getD i 0)) else none := rfl
@[simp] theorem get_strs (xs : List ByteArray) (i off : Nat) : RC.get (.strs xs) i off = if off = 0 then some (.str (xs.getD i .empty)) else none := rfl
@[simp] theorem get_bools (xs : List Bool) (i off : Nat) : RC.get (.bools xs) i off = if off = 0 then some (.bool (xs.getD i false)) else none := rfl
@[simp] theorem get_recs (n : Nat) (xs : List (List Sc)) (i off : Nat) : RC.get (.recs n xs) i off = (xs.getD i [])[off]? := rfl
@[simp] theorem elem_ints (k : IntKind) (xs : List Int) (i : Nat) : RC.elem (.ints k xs) i = [.int k (xs.getD i 0)] := rfl
@[simp] theorem elem_recs (n : Nat) (xs : List (List Sc)) (i : Nat) : RC.elem (.recs n xs) i = xs.getD i [] := rfl
@[simp] theorem set_ints (k j : IntKind) (xs : List Int) (i off : Nat) (x : Int) : RC.set (.ints k xs) i off (.int j x) = if off = 0 ∧ k = j then some (.ints k (xs.set i x)) else none := rfl
@[simp] theorem set_recs (n : Nat) (xs : List (List Sc)) (i off : Nat) (c : Sc) : RC.set (.recs n xs) i off c = if off < n then some (.recs n (xs.set i ((xs.getD i []).set off c))) else none := rfl
@[simp] theorem app_ints (k j : IntKind) (xs ys : List Int) : RC.app (.ints k xs) (.ints j ys) = if k = j then some (.ints k (xs ++ ys)) else none := rfl
@[simp] theorem app_strs (xs ys : List ByteArray) : RC.app (.strs xs) (.strs ys) = some (.strs (xs ++ ys)) := rfl
@[simp] theorem app_bools (xs ys : List Bool) : RC.app (.bools xs) (.bools ys) = some (.bools (xs ++ ys)) := rfl
@[simp] theorem app_recs (n m : Nat) (xs ys : List (List Sc)) : RC.app (.recs n xs) (.recs m ys) = if n = m then some (.recs n (xs ++ ys)) else none := rfl
@[simp] theorem content_row (hp : List Ob) (k : Nat) : content hp (.row k) = rowAt (hp[k]?) := rfl
@[simp] theorem content_view (hp : List Ob) (k o n : Nat) : content hp (.view k o n) = cutAt o n (hp[k]?) := rfl
@[simp] theorem content_ro (hp : List Ob) (t : Nat) (c : RC) : content hp (.ro t c) = some c := rfl
@[simp] theorem content_nils (hp : List Ob) (c : RC) : content hp (.nils c) = some c := rfl
@[simp] theorem rowAt_rows (g : Option Nat) (c : RC) : rowAt (some (.rows g c)) = some c := rfl
@[simp] theorem cutAt_rows (g : Option Nat) (o n : Nat) (c : RC) : cutAt o n (some (.rows g c)) = some (c.cut o n) := rfl
@[simp] theorem sizeAt_rows (g : Option Nat) (c : RC) : sizeAt (some (.rows g c)) = some c.size := rfl
@[simp] theorem sizeOf_row (hp : List Ob) (k : Nat) : Go.X.sizeOf hp (.row k) = sizeAt (hp[k]?) := rfl
@[simp] theorem sizeOf_view (hp : List Ob) (k o n : Nat) : Go.X.sizeOf hp (.view k o n) = sizeAt (hp[k]?) := rfl
@[simp] theorem sizeOf_cview (hp : List Ob) (k o n : Nat) : Go.X.sizeOf hp (.cview k o n) = some 1 := rfl
@[simp] theorem sizeOf_ro (hp : List Ob) (t : Nat) (c : RC) : Go.X.sizeOf hp (.ro t c) = some c.size := rfl
@[simp] theorem sizeOf_nils (hp : List Ob) (c : RC) : Go.X.sizeOf hp (.nils c) = some c.size := rfl
@[simp] theorem lenOf_row (hp : List Ob) (k : Nat) : lenOf hp (.row k) = lenAt (hp[k]?) := rfl
@[simp] theorem lenAt_rows (g : Option Nat) (c : RC) : lenAt (some (.rows g c)) = some c.len := rfl
@[simp] theorem lenOf_view (hp : List Ob) (k o n : Nat) : lenOf hp (.view k o n) = some n := rfl
@[simp] theorem lenOf_cview (hp : List Ob) (k o n : Nat) : lenOf hp (.cview k o n) = some n := rfl
@[simp] theorem lenOf_ro (hp : List Ob) (t : Nat) (c : RC) : lenOf hp (.ro t c) = some c.len := rfl
@[simp] theorem lenOf_nils (hp : List Ob) (c : RC) : lenOf hp (.nils c) = some 0 := rfl
@[simp] theorem oLenS_str (hp : List Ob) (s : ByteArray) : oLenS hp (.one (.str s)) = some (.one (.int .i64 s.size), hp) := rfl
@[simp] theorem source_str (hp : List Ob) (l : List Int) (s : ByteArray) : source hp (.ints .u8 l) (.str s) = some (.ints .u8 (toBytes s)) := rfl
@[simp] theorem source_row (hp : List Ob) (c0 : RC) (k : Nat) : source hp c0 (.row k) = content hp (.row k) := rfl
@[simp] theorem keyOf_row (k : Nat) : keyOf (.row k) = some k := rfl
@[simp] theorem source_view (hp : List Ob) (c0 : RC) (k o n : Nat) : source hp c0 (.view k o n) = content hp (.view k o n) := rfl
@[simp] theorem keyOf_view (k o n : Nat) : keyOf (.view k o n) = some k := rfl
@[simp] theorem source_ro (hp : List Ob) (c0 : RC) (t : Nat) (c : RC) : source hp c0 (.ro t c) = content hp (.ro t c) := rfl
@[simp] theorem keyOf_ro (t : Nat) (c : RC) : keyOf (.ro t c) = none := rfl
@[simp] theorem source_nils (hp : List Ob) (c0 : RC) (c : RC) : source hp c0 (.nils c) = content hp (.nils c) := rfl
@[simp] theorem keyOf_nils (c : RC) : keyOf (.nils c) = none := rfl
@[simp] theorem keyOf_undef  : keyOf .undef = none := rfl
@[simp] theorem takeE_def (c : RC) (n i o : Nat) : takeE c n i o = if o + n ≤ c.size then some ((((c.elem i).drop o).take n).map Sc.sv) else none := rfl
@[simp] theorem keyOf_str (s : ByteArray) : keyOf (.str s) = none := rfl
@[simp] theorem bin_add (k j : IntKind) (x y : Int) : Go.X.bin .add (.int k x) (.int j y) = if k = j then some (.int k (k.wrap (x + y))) else none := rfl
@[simp] theorem bin_sub (k j : IntKind) (x y : Int) : Go.X.bin .sub (.int k x) (.int j y) = if k = j then some (.int k (k.wrap (x - y))) else none := rfl
@[simp] theorem bin_mul (k j : IntKind) (x y : Int) : Go.X.bin .mul (.int k x) (.int j y) = if k = j then some (.int k (k.wrap (x * y))) else none := rfl
@[simp] theorem bin_and (k j : IntKind) (x y : Int) : Go.X.bin .and (.int k x) (.int j y) = if k = j then some (.int k (bitsI .and k x y)) else none := rfl
@[simp] theorem bin_or (k j : IntKind) (x y : Int) : Go.X.bin .or (.int k x) (.int j y) = if k = j then some (.int k (bitsI .or k x y)) else none := rfl
@[simp] theorem bin_xor (k j : IntKind) (x y : Int) : Go.X.bin .xor (.int k x) (.int j y) = if k = j then some (.int k (bitsI .xor k x y)) else none := rfl
@[simp] theorem bin_andNot (k j : IntKind) (x y : Int) : Go.X.bin .andNot (.int k x) (.int j y) = if k = j then some (.int k (bitsI .andNot k x y)) else none := rfl
@[simp] theorem bin_quo (k j : IntKind) (x y : Int) : Go.X.bin .quo (.int k x) (.int j y) = if k = j then (if y = 0 then none else some (.int k (k.wrap (x.tdiv y)))) else none := rfl
@[simp] theorem bin_rem (k j : IntKind) (x y : Int) : Go.X.bin .rem (.int k x) (.int j y) = if k = j then (if y = 0 then none else some (.int k (x.tmod y))) else none := rfl
@[simp] theorem bin_shl (k j : IntKind) (x y : Int) : Go.X.bin .shl (.int k x) (.int j y) = if y < 0 then none else some (.int k (shlI k x y)) := rfl
@[simp] theorem bin_shr (k j : IntKind) (x y : Int) : Go.X.bin .shr (.int k x) (.int j y) = if y < 0 then none else some (.int k (shrI k x y)) := rfl
@[simp] theorem bin_eql (k j : IntKind) (x y : Int) : Go.X.bin .eql (.int k x) (.int j y) = if k = j then some (.bool (x == y)) else none := rfl
@[simp] theorem bin_neq (k j : IntKind) (x y : Int) : Go.X.bin .neq (.int k x) (.int j y) = if k = j then some (.bool (x != y)) else none := rfl
@[simp] theorem bin_lss (k j : IntKind) (x y : Int) : Go.X.bin .lss (.int k x) (.int j y) = if k = j then some (.bool (decide (x < y))) else none := rfl
@[simp] theorem bin_leq (k j : IntKind) (x y : Int) : Go.X.bin .leq (.int k x) (.int j y) = if k = j then some (.bool (decide (x ≤ y))) else none := rfl
@[simp] theorem bin_gtr (k j : IntKind) (x y : Int) : Go.X.bin .gtr (.int k x) (.int j y) = if k = j then some (.bool (decide (y < x))) else none := rfl
@[simp] theorem bin_geq (k j : IntKind) (x y : Int) : Go.X.bin .geq (.int k x) (.int j y) = if k = j then some (.bool (decide (y ≤ x))) else none := rfl
@[simp] theorem oEqB_bool (hp : List Ob) (neq x y : Bool) : oEqB hp neq (.one (.bool x)) (.one (.bool y)) = putB hp neq (some (x == y)) := rfl
@[simp] theorem bin_sadd (x y : ByteArray) : Go.X.bin .add (.str x) (.str y) = if x.size + y.size ≤ 9223372036854775807 then some (.str (x ++ y)) else none := rfl
@[simp] theorem bin_seql (x y : ByteArray) : Go.X.bin .eql (.str x) (.str y) = some (.bool (x.toList == y.toList)) := rfl
@[simp] theorem bin_slss (x y : ByteArray) : Go.X.bin .lss (.str x) (.str y) = some (.bool (Go.Op.bytesLess x.toList y.toList)) := rfl
@[simp] theorem bin_sneq (x y : ByteArray) : Go.X.bin .neq (.str x) (.str y) = some (.bool (!(x.toList == y.toList))) := rfl
@[simp] theorem un_neg (k : IntKind) (x : Int) : Go.X.un .neg (.int k x) = some (.int k (k.wrap (0 - x))) := rfl
@[simp] theorem un_xor (k : IntKind) (x : Int) : Go.X.un .xor (.int k x) = some (.int k (bitsI .xor k (if k.signed then -1 else k.max) x)) := rfl
@[simp] theorem un_not (b : Bool) : Go.X.un .not (.bool b) = some (.bool (!b)) := rfl
@[simp] theorem eqSc_int (k0 k j : IntKind) (x0 x y : Int) : eqSc (.int k0 x0) (.int k x) (.int j y) = if k = j then some (x == y) else none := rfl
@[simp] theorem eqSc_bool (x0 x y : Bool) : eqSc (.bool x0) (.bool x) (.bool y) = some (x == y) := rfl
@[simp] theorem eqSc_str (x0 x y : ByteArray) : eqSc (.str x0) (.str x) (.str y) = some (x == y) := rfl
@[simp] theorem oneAV_some (v : SV) : oneAV (some v) = some (.one v) := rfl
@[simp] theorem aggAV_some (l : List SV) : aggAV (some l) = some (.agg l) := rfl
@[simp] theorem tupOf_one (v : AV) : tupOf [v] = v := rfl
@[simp] theorem tupOf_two (v u : AV) (l : List AV) : tupOf (v :: u :: l) = .tup (v :: u :: l) := rfl
@[simp] theorem thenC_ite (f : St → Option (Ex × St)) (c : Prop) [Decidable c] (a b : Option (Ex × St)) : thenC f (if c then a else b) = if c then thenC f a else thenC f b := by split <;> rfl
@[simp] theorem thenI_ite (env : Env) (rts : List SV) (d : Option Nat) (f : St → Option St) (c : Prop) [Decidable c] (a b : Res) : thenI env rts d f (if c then a else b) = if c then thenI env rts d f a else thenI env rts d f b := by split <;> rfl
@[simp] theorem blockC_ite (i : Nat) (c : Prop) [Decidable c] (a b : Option (Ex × St)) : blockC i (if c then a else b) = if c then blockC i a else blockC i b := by split <;> rfl
@[simp] theorem normC_ite  (c : Prop) [Decidable c] (a b : Option St) : normC  (if c then a else b) = if c then normC  a else normC  b := by split <;> rfl
@[simp] theorem put1_ite (hp : List Ob) (c : Prop) [Decidable c] (a b : Option SV) : put1 hp (if c then a else b) = if c then put1 hp a else put1 hp b := by split <;> rfl
@[simp] theorem putA_ite (hp : List Ob) (c : Prop) [Decidable c] (a b : Option AV) : putA hp (if c then a else b) = if c then putA hp a else putA hp b := by split <;> rfl
@[simp] theorem putL_ite (hp : List Ob) (c : Prop) [Decidable c] (a b : Option (List SV)) : putL hp (if c then a else b) = if c then putL hp a else putL hp b := by split <;> rfl
@[simp] theorem putH_ite  (c : Prop) [Decidable c] (a b : Option (List Ob)) : putH  (if c then a else b) = if c then putH  a else putH  b := by split <;> rfl
@[simp] theorem putR_ite (hp : List Ob) (c : Prop) [Decidable c] (a b : Option RC) : putR hp (if c then a else b) = if c then putR hp a else putR hp b := by split <;> rfl
@[simp] theorem ofElemsO_ite (c0 : RC) (c : Prop) [Decidable c] (a b : Option (List (List Sc))) : ofElemsO c0 (if c then a else b) = if c then ofElemsO c0 a else ofElemsO c0 b := by split <;> rfl
@[simp] theorem putB_ite (hp : List Ob) (n : Bool) (c : Prop) [Decidable c] (a b : Option Bool) : putB hp n (if c then a else b) = if c then putB hp n a else putB hp n b := by split <;> rfl
@[simp] theorem resC_ite (rs : List (Nat × Option (Option Nat))) (c : Prop) [Decidable c] (a b : Option (Ex × St)) : resC rs (if c then a else b) = if c then resC rs a else resC rs b := by split <;> rfl
@[simp] theorem rowsH_ite (hp : List Ob) (k : Nat) (g : Option Nat) (c : Prop) [Decidable c] (a b : Option RC) : rowsH hp k g (if c then a else b) = if c then rowsH hp k g a else rowsH hp k g b := by split <;> rfl
@[simp] theorem scSV_ite  (c : Prop) [Decidable c] (a b : Option Sc) : scSV  (if c then a else b) = if c then scSV  a else scSV  b := by split <;> rfl
@[simp] theorem give_ite (rts : List SV) (hp : List Ob) (c : Prop) [Decidable c] (a b : Option (List AV)) : give rts hp (if c then a else b) = if c then give rts hp a else give rts hp b := by split <;> rfl
@[simp] theorem comeBack_ite (hp : List Ob) (ks : List Nat) (args : List AV) (c : Prop) [Decidable c] (a b : Res) : comeBack hp ks args (if c then a else b) = if c then comeBack hp ks args a else comeBack hp ks args b := by split <;> rfl
@[simp] theorem inBounds_nat (i : Int) (n : Nat) : (inBounds i n = true) = (0 ≤ i ∧ i < n) := by simp [inBounds]
theorem shrI_eq (k : IntKind) (x y : Int) : shrI k x y = x / ((2 ^ Nat.min y.toNat k.bits : Nat) : Int) := by
  unfold shrI
  have h : ((2 ^ Nat.min y.toNat k.bits : Nat) : Int) = (2 : Int) ^ Nat.min y.toNat k.bits := by simp
  rw [← h, Int.fdiv_eq_ediv_of_nonneg _ (Int.natCast_nonneg _)]
def bl (n : Nat) : Nat := if n = 0 then 0 else Nat.log2 n + 1
theorem bl_pos {n : Nat} (h : 0 < n) : 2 ^ (bl n - 1) ≤ n ∧ n < 2 ^ bl n ∧ 0 < bl n := by
  have h' : n ≠ 0 := by omega
  simp only [bl, if_neg h', Nat.add_sub_cancel]
  exact ⟨Nat.log2_self_le h', Nat.lt_log2_self, by omega⟩
theorem bl_unique {n k : Nat} (h1 : 2 ^ k ≤ n) (h2 : n < 2 ^ (k + 1)) : bl n = k + 1 := by
  have h' : n ≠ 0 := by have := Nat.two_pow_pos k; omega
  simp only [bl, if_neg h']
  have h3 := (Nat.le_log2 h').2 h1
  have h4 := (Nat.log2_lt h').2 h2
  omega
theorem bl_div {n : Nat} (k : Nat) (h : 2 ^ k ≤ n) : bl n = k + bl (n / 2 ^ k) := by
  have hp := Nat.two_pow_pos k
  have hq : 0 < n / 2 ^ k := Nat.div_pos h hp
  obtain ⟨h1, h2, h3⟩ := bl_pos hq
  generalize bl (n / 2 ^ k) = b at *
  obtain ⟨c, rfl⟩ : ∃ c, b = c + 1 := ⟨b - 1, by omega⟩
  simp only [Nat.add_sub_cancel] at h1
  rw [show k + (c + 1) = (k + c) + 1 by omega]
  refine bl_unique ?_ ?_
  · rw [Nat.pow_add, Nat.mul_comm]
    exact (Nat.le_div_iff_mul_le hp).1 h1
  · rw [show k + c + 1 = (c + 1) + k by omega, Nat.pow_add]
    exact (Nat.div_lt_iff_lt_mul hp).1 h2
theorem bl_zero : bl 0 = 0 := rfl
theorem bl_le {n k : Nat} (h : n < 2 ^ k) : bl n ≤ k := by
  rcases Nat.eq_zero_or_pos n with e | e
  · subst e; simp [bl]
  · obtain ⟨h1, _, h3⟩ := bl_pos e
    have : 2 ^ (bl n - 1) < 2 ^ k := by omega
    have := (Nat.pow_lt_pow_iff_right (by omega : 1 < 2)).1 this
    omega
theorem bl_half {n : Nat} (h : 0 < n) : bl n = bl (n / 2) + 1 := by
  rcases Nat.lt_or_ge n 2 with h2 | h2
  · obtain rfl : n = 1 := by omega
    rfl
  · have := bl_div (n := n) 1 (by simpa using h2)
    simp at this; omega
def loopH (body : St → Option (Ex × St)) (live : List Nat) (k : Nat) (st : St) : Option (Ex × St) := thenC (loopN body live (k - 1)) (body st)
theorem loop_head {body : St → Option (Ex × St)} {live : List Nat} {k : Nat} (st : St) (h : k ≠ 0) : loopN body live k st = loopH body live k (st.head live) := by
  cases k with
  | zero => exact absurd rfl h
  | succ k => rfl
@[simp] theorem loop_KK (body : St → Option (Ex × St)) (live : List Nat) (st : St) : loopN body live KK st = loopH body live KK (st.head live) := loop_head st (by rw [KK_eq]; omega)
theorem loopH_norm {body : St → Option (Ex × St)} {live : List Nat} {k : Nat} {st st1 : St} (h : body st = some (.norm, st1)) (hk : 1 < k) : loopH body live k st = loopH body live (k - 1) (st1.head live) := by
  rw [loopH, h]; exact loop_head st1 (by omega)
theorem loopH_exit {body : St → Option (Ex × St)} {live : List Nat} {k : Nat} {st st1 : St} {i : Nat} (h : body st = some (.exit i, st1)) : loopH body live k st = some (.exit i, st1) := by
  rw [loopH, h]; rfl
theorem loopH_ret {body : St → Option (Ex × St)} {live : List Nat} {k : Nat} {st st1 : St} (h : body st = some (.ret, st1)) : loopH body live k st = some (.ret, st1) := by
  rw [loopH, h]; rfl
theorem loopH_ind {α : Type} {body : St → Option (Ex × St)} {live : List Nat} (canon : α → St) (I : α → Prop) (P : α → Ex × St → Prop) (m : α → Nat)
    (hs : ∀ a, I a → (∃ r, body (canon a) = some r ∧ r.1 ≠ .norm ∧ P a r) ∨ (∃ st1 a', body (canon a) = some (.norm, st1) ∧ St.head live st1 = canon a' ∧ I a' ∧ m a' < m a ∧ ∀ r, P a' r → P a r)) :
    ∀ (k : Nat) (a : α), I a → m a < k → ∃ r, loopH body live k (canon a) = some r ∧ P a r
  | 0, a, _, hk => by omega
  | k + 1, a, ha, hk => by
    rcases hs a ha with ⟨r, h1, h2, h3⟩ | ⟨st1, a', h1, h2, h3, h4, h5⟩
    · obtain ⟨x, st1⟩ := r
      cases x with
      | norm => exact absurd rfl h2
      | exit i => exact ⟨_, loopH_exit h1, h3⟩
      | ret => exact ⟨_, loopH_ret h1, h3⟩
    · cases k with
      | zero => omega
      | succ k =>
        obtain ⟨r, e, hp⟩ := loopH_ind canon I P m hs (k + 1) a' h3 (by omega)
        exact ⟨r, by rw [loopH_norm h1 (by omega), h2]; exact e, h5 r hp⟩
def loopG (body : St → Option (Ex × St)) (live : List Nat) (n : Nat) (st : St) : Option (Ex × St) := loopH body live (KK - n) st
@[congr] theorem loopG_cg {body : St → Option (Ex × St)} {live : List Nat} {n : Nat} {st st' : St} (h : st = st') : loopG body live n st = loopG body live n st' := by rw [h]
@[congr] theorem loopH_cg {body : St → Option (Ex × St)} {live : List Nat} {k : Nat} {st st' : St} (h : st = st') : loopH body live k st = loopH body live k st' := by rw [h]
theorem loop_go0 (body : St → Option (Ex × St)) (live : List Nat) (st : St) : loopH body live KK st = loopG body live 0 st := rfl
theorem loop_go1 {body : St → Option (Ex × St)} {live : List Nat} {n : Nat} {st : St} (hn : n < 1000) : loopG body live n st = thenC (fun st => loopG body live (n + 1) (st.head live)) (body st) := by
  have hK := KK_eq
  unfold loopG loopH
  cases hb : body st with
  | none => rfl
  | some p =>
    obtain ⟨x, st1⟩ := p
    cases x with
    | norm =>
      have h1 : KK - n - 1 = KK - (n + 1) := by omega
      rw [h1]
      exact loop_head st1 (by omega)
    | exit i => rfl
    | ret => rfl
def slv (k : Nat) : Option (Nat × Nat) → SV
  | none => .row k
  | some (o, n) => .view k o n
def slvO (s : Option (Nat × Nat)) : Option Nat → SV
  | some j => slv j s
  | none => .undef
@[simp] theorem slvO_some (s : Option (Nat × Nat)) (j : Nat) : slvO s (some j) = slv j s := rfl
@[simp ↓ high] theorem reachSV_slv (hp : List Ob) (f k : Nat) (s : Option (Nat × Nat)) (ks : List Nat) : reachSV hp (f + 1) (slv k s) ks = if ks.elem k then ks else reachOb hp f hp[k]? k ks := by
  cases s <;> simp only [slv, reachSV]
@[simp ↓ high] theorem ren_slv (f : Nat → Option Nat) (k : Nat) (s : Option (Nat × Nat)) : SV.ren f (slv k s) = slvO s (f k) := by
  cases s <;> simp only [slv, SV.ren, slvO] <;> cases f k <;> rfl
@[simp ↓ high] theorem back_slv (cs : List SV) (k : Nat) (s : Option (Nat × Nat)) : SV.back cs (slv k s) = slv k s := by
  cases s <;> simp [slv]
@[simp ↓ high] theorem strip_slv (k : Nat) (s : Option (Nat × Nat)) : SV.strip (slv k s) = slv k s := by
  cases s <;> simp [slv]
@[simp ↓ high] theorem okCell_slv (k : Nat) (s : Option (Nat × Nat)) : okCell (slv k s) = true := by
  cases s <;> simp [slv]
@[simp ↓ high] theorem handed_slv (k : Nat) (s : Option (Nat × Nat)) (l : List SV) : handed (slv k s :: l) = handed l := by
  cases s <;> simp [slv]
def vw {α : Type} (X : List α) : Option (Nat × Nat) → List α
  | none => X
  | some (o, n) => (X.drop o).take n
def vwn {α : Type} (X : List α) : Option (Nat × Nat) → Nat
  | none => X.length
  | some (_, n) => n
def vok {α : Type} (X : List α) : Option (Nat × Nat) → Prop
  | none => True
  | some (o, n) => o + n ≤ X.length
theorem vw_len {α : Type} (X : List α) (s : Option (Nat × Nat)) (h : vok X s) : (vw X s).length = vwn X s := by
  cases s with
  | none => rfl
  | some p =>
    obtain ⟨o, n⟩ := p
    simp only [vok] at h
    simp only [vw, vwn, List.length_take, List.length_drop]
    omega
@[simp ↓ high] theorem reachSV_sc (hp : List Ob) (f : Nat) (c : Sc) (ks : List Nat) : reachSV hp f c.sv ks = ks := by cases f <;> cases c <;> rfl
@[simp ↓ high] theorem ren_sc (f : Nat → Option Nat) (c : Sc) : SV.ren f c.sv = c.sv := by cases c <;> rfl
@[simp ↓ high] theorem back_sc (cs : List SV) (c : Sc) : SV.back cs c.sv = c.sv := by cases c <;> rfl
@[simp ↓ high] theorem okCell_sc (c : Sc) : okCell c.sv = true := by cases c <;> rfl
open Go.IntWalk
theorem bitsI_and {k : IntKind} {x y : Nat} (h : k.signed = false) (hx : x < 2 ^ k.bits) (hy : y < 2 ^ k.bits) : bitsI .and k (x : Int) (y : Int) = ((x &&& y : Nat) : Int) := by
  have e : ((BitVec.ofInt k.bits (x : Int) &&& BitVec.ofInt k.bits (y : Int)).toNat : Int) = ((x &&& y : Nat) : Int) := by
    rw [BitVec.toNat_and, BitVec.ofInt_natCast, BitVec.ofInt_natCast, BitVec.toNat_ofNat, BitVec.toNat_ofNat, Nat.mod_eq_of_lt hx, Nat.mod_eq_of_lt hy]
  have hlt : x &&& y < 2 ^ k.bits := Nat.lt_of_le_of_lt Nat.and_le_left hx
  show k.wrap _ = _
  rw [e]
  cases k <;> first | (exact absurd h (by decide)) | (simp only [IntKind.bits] at hlt; first | exact u8_in _ (by omega) | exact u16_in _ (by omega) | exact u32_in _ (by omega) | exact u64_in _ (by omega))
theorem bitsI_or {k : IntKind} {x y : Nat} (h : k.signed = false) (hx : x < 2 ^ k.bits) (hy : y < 2 ^ k.bits) : bitsI .or k (x : Int) (y : Int) = ((x ||| y : Nat) : Int) := by
  have e : ((BitVec.ofInt k.bits (x : Int) ||| BitVec.ofInt k.bits (y : Int)).toNat : Int) = ((x ||| y : Nat) : Int) := by
    rw [BitVec.toNat_or, BitVec.ofInt_natCast, BitVec.ofInt_natCast, BitVec.toNat_ofNat, BitVec.toNat_ofNat, Nat.mod_eq_of_lt hx, Nat.mod_eq_of_lt hy]
  have hlt : x ||| y < 2 ^ k.bits := Nat.or_lt_two_pow hx hy
  show k.wrap _ = _
  rw [e]
  cases k <;> first | (exact absurd h (by decide)) | (simp only [IntKind.bits] at hlt; first | exact u8_in _ (by omega) | exact u16_in _ (by omega) | exact u32_in _ (by omega) | exact u64_in _ (by omega))
theorem bitsI_and_i64 {x y : Nat} (hx : x < 2 ^ 63) (hy : y < 2 ^ 63) : bitsI .and .i64 (x : Int) (y : Int) = ((x &&& y : Nat) : Int) := by
  have e : ((BitVec.ofInt 64 (x : Int) &&& BitVec.ofInt 64 (y : Int)).toNat : Int) = ((x &&& y : Nat) : Int) := by
    rw [BitVec.toNat_and, BitVec.ofInt_natCast, BitVec.ofInt_natCast, BitVec.toNat_ofNat, BitVec.toNat_ofNat, Nat.mod_eq_of_lt (by omega), Nat.mod_eq_of_lt (by omega)]
  have hlt : x &&& y < 2 ^ 63 := Nat.lt_of_le_of_lt Nat.and_le_left hx
  show IntKind.i64.wrap _ = _
  have e2 : ((BitVec.ofInt IntKind.i64.bits (x : Int) &&& BitVec.ofInt IntKind.i64.bits (y : Int)).toNat : Int) = ((x &&& y : Nat) : Int) := e
  rw [e2]
  exact i64_in _ (by omega)
theorem and7_i64 {x : Nat} (hx : x < 2 ^ 63) : bitsI .and .i64 (x : Int) 7 = ((x % 8 : Nat) : Int) := by
  have := bitsI_and_i64 (y := 7) hx (by omega)
  rw [show ((7 : Nat) : Int) = 7 from rfl] at this
  rw [this, show (7 : Nat) = 2 ^ 3 - 1 from rfl, Nat.and_two_pow_sub_one_eq_mod]
theorem mask_and {k : IntKind} {x n : Nat} (h : k.signed = false) (hx : x < 2 ^ k.bits) (hn : n ≤ k.bits) : bitsI .and k (x : Int) (((2 ^ n - 1 : Nat)) : Int) = ((x % 2 ^ n : Nat) : Int) := by
  have hp := Nat.pow_le_pow_right (n := 2) (by omega) hn
  have := Nat.two_pow_pos n
  rw [bitsI_and h hx (by omega), Nat.and_two_pow_sub_one_eq_mod]
theorem or_add {k : IntKind} {x y n : Nat} (h : k.signed = false) (hx : x < 2 ^ n) (hn : x + y * 2 ^ n < 2 ^ k.bits) : bitsI .or k (x : Int) ((y * 2 ^ n : Nat) : Int) = ((x + y * 2 ^ n : Nat) : Int) := by
  rw [bitsI_or h (by omega) (by omega)]
  have := Nat.shiftLeft_add_eq_or_of_lt hx y
  rw [Nat.shiftLeft_eq] at this
  rw [Nat.or_comm, ← this, Nat.add_comm]
theorem shl_in {k : IntKind} {x n : Nat} (h : k.signed = false) (hn : n ≤ k.bits) (hlt : x * 2 ^ n < 2 ^ k.bits) : shlI k (x : Int) (n : Int) = ((x * 2 ^ n : Nat) : Int) := by
  have e : (x : Int) * 2 ^ Nat.min (n : Int).toNat k.bits = ((x * 2 ^ n : Nat) : Int) := by
    rw [Int.toNat_natCast, show Nat.min n k.bits = n from Nat.min_eq_left hn]
    simp
  show k.wrap _ = _
  rw [e]
  cases k <;> first | (exact absurd h (by decide)) | (simp only [IntKind.bits] at hlt; first | exact u8_in _ (by omega) | exact u16_in _ (by omega) | exact u32_in _ (by omega) | exact u64_in _ (by omega))
theorem shr_in {k : IntKind} {x n : Nat} (hn : n ≤ k.bits) : shrI k (x : Int) (n : Int) = ((x / 2 ^ n : Nat) : Int) := by
  rw [shrI_eq, Int.toNat_natCast, show Nat.min n k.bits = n from Nat.min_eq_left hn]
  simp
def leB : List Int → Nat
  | [] => 0
  | b :: l => b.toNat + 256 * leB l
def isB (l : List Int) : Prop := ∀ b ∈ l, 0 ≤ b ∧ b < 256
theorem isB.tail {b : Int} {l : List Int} (h : isB (b :: l)) : isB l := fun x hx => h x (List.mem_cons_of_mem _ hx)
theorem leB_lt : ∀ {l : List Int}, isB l → leB l < 2 ^ (8 * l.length)
  | [], _ => by simp [leB]
  | b :: l, h => by
    have h1 := leB_lt h.tail
    have h2 := h b (by simp)
    have e : 2 ^ (8 * (l.length + 1)) = 256 * 2 ^ (8 * l.length) := by rw [Nat.mul_add, Nat.pow_add]; omega
    simp only [leB, List.length_cons]
    rw [e]
    omega
theorem leB_at : ∀ {l : List Int} {i : Nat} {b : Int}, isB l → l[i]? = some b → leB l / 2 ^ (8 * i) % 256 = b.toNat
  | [], i, b, _, h => by simp at h
  | c :: l, 0, b, hB, h => by
    simp only [List.getElem?_cons_zero, Option.some.injEq] at h
    subst h
    have := hB c (by simp)
    simp only [leB, Nat.mul_zero, Nat.pow_zero, Nat.div_one]
    omega
  | c :: l, i + 1, b, hB, h => by
    simp only [List.getElem?_cons_succ] at h
    have := hB c (by simp)
    rw [← leB_at hB.tail h, show 8 * (i + 1) = 8 + 8 * i by omega, Nat.pow_add, ← Nat.div_div_eq_div_mul]
    congr 2
    simp only [leB]
    omega
theorem leB_append : ∀ (l m : List Int), leB (l ++ m) = leB l + 2 ^ (8 * l.length) * leB m
  | [], m => by simp [leB]
  | b :: l, m => by
    have e : 2 ^ (8 * (l.length + 1)) = 256 * 2 ^ (8 * l.length) := by rw [Nat.mul_add, Nat.pow_add]; omega
    simp only [List.cons_append, leB, List.length_cons, leB_append l m]
    rw [e, Nat.mul_assoc]
    generalize 2 ^ (8 * l.length) * leB m = Q
    omega
theorem leB_set : ∀ {l : List Int} {i : Nat} {b : Int} {d : Nat}, isB l → l[i]? = some b → leB (l.set i (b + d)) = leB l + d * 2 ^ (8 * i)
  | [], i, b, d, _, h => by simp at h
  | c :: l, 0, b, d, hB, h => by
    simp only [List.getElem?_cons_zero, Option.some.injEq] at h
    subst h
    have := hB c (by simp)
    simp only [List.set_cons_zero, leB, Nat.mul_zero, Nat.pow_zero]
    omega
  | c :: l, i + 1, b, d, hB, h => by
    simp only [List.getElem?_cons_succ] at h
    have e : 2 ^ (8 * (i + 1)) = 256 * 2 ^ (8 * i) := by rw [Nat.mul_add, Nat.pow_add]; omega
    simp only [List.set_cons_succ, leB, leB_set hB.tail h]
    rw [e, Nat.mul_left_comm]
    generalize d * 2 ^ (8 * i) = Q
    omega
theorem leB_inj : ∀ {l m : List Int}, isB l → isB m → l.length = m.length → leB l = leB m → l = m
  | [], [], _, _, _, _ => rfl
  | [], _ :: _, _, _, h, _ => by simp at h
  | _ :: _, [], _, _, h, _ => by simp at h
  | b :: l, c :: m, hl, hm, h, e => by
    have h1 := hl b (by simp)
    have h2 := hm c (by simp)
    simp only [leB] at e
    have e1 : b = c := by omega
    subst e1
    rw [leB_inj hl.tail hm.tail (by simpa using h) (by omega)]
theorem byte_bits {N i a k : Nat} (h : a + k ≤ 8) : N / 2 ^ (8 * i) % 256 / 2 ^ a % 2 ^ k = N / 2 ^ (8 * i + a) % 2 ^ k := by
  rw [Nat.pow_add, ← Nat.div_div_eq_div_mul]
  generalize N / 2 ^ (8 * i) = M
  have e : (256 : Nat) = 2 ^ a * 2 ^ (8 - a) := by rw [← Nat.pow_add, show a + (8 - a) = 8 by omega]
  rw [e, Nat.mod_mul_right_div_self, Nat.mod_mod_of_dvd _ (Nat.pow_dvd_pow 2 (by omega))]
theorem mod_more (N g k : Nat) : N % 2 ^ (g + k) = N % 2 ^ g + N / 2 ^ g % 2 ^ k * 2 ^ g := by
  rw [Nat.pow_add, Nat.mod_mul, Nat.mul_comm (2 ^ g)]
def leN : List Int → Nat
  | [] => 0
  | b :: l => b.toNat + 2 * leN l
def isN (l : List Int) : Prop := ∀ b ∈ l, b = 0 ∨ b = 1
theorem isN.tail {b : Int} {l : List Int} (h : isN (b :: l)) : isN l := fun x hx => h x (List.mem_cons_of_mem _ hx)
theorem leN_lt : ∀ {l : List Int}, isN l → leN l < 2 ^ l.length
  | [], _ => by simp [leN]
  | b :: l, h => by
    have h1 := leN_lt h.tail
    have h2 := h b (by simp)
    simp only [leN, List.length_cons, Nat.pow_succ]
    omega
theorem leN_append : ∀ (l m : List Int), leN (l ++ m) = leN l + 2 ^ l.length * leN m
  | [], m => by simp [leN]
  | b :: l, m => by
    simp only [List.cons_append, leN, List.length_cons, leN_append l m, Nat.pow_succ]
    rw [Nat.mul_comm (2 ^ l.length) 2, Nat.mul_assoc]
    generalize 2 ^ l.length * leN m = Q
    omega
theorem leN_take : ∀ {l : List Int} (n : Nat), isN l → leN (l.take n) = leN l % 2 ^ n
  | [], n, _ => by simp [leN]
  | b :: l, 0, _ => by simp [leN, Nat.mod_one]
  | b :: l, n + 1, h => by
    have h2 := h b (by simp)
    have e : (b.toNat + 2 * leN l) / 2 = leN l := by omega
    simp only [List.take_succ_cons, leN, leN_take n h.tail, Nat.pow_succ]
    rw [Nat.mul_comm (2 ^ n) 2, Nat.mod_mul, e]
    generalize leN l % 2 ^ n = Q
    omega
theorem leN_drop : ∀ {l : List Int} (n : Nat), isN l → leN (l.drop n) = leN l / 2 ^ n
  | [], n, _ => by simp [leN]
  | b :: l, 0, _ => by simp
  | b :: l, n + 1, h => by
    have h2 := h b (by simp)
    simp only [List.drop_succ_cons, leN, leN_drop n h.tail, Nat.pow_succ]
    rw [Nat.mul_comm (2 ^ n) 2, ← Nat.div_div_eq_div_mul]
    congr 1
    omega
theorem leN_at {l : List Int} {i : Nat} {b : Int} (hN : isN l) (h : l[i]? = some b) : leN l / 2 ^ i % 2 = b.toNat := by
  obtain ⟨hlt, e⟩ := List.getElem?_eq_some_iff.1 h
  have hb := hN b (List.mem_of_getElem? h)
  rw [← leN_drop i hN, List.drop_eq_getElem_cons hlt, e]
  simp only [leN]
  omega
theorem leN_inj : ∀ {l m : List Int}, isN l → isN m → l.length = m.length → leN l = leN m → l = m
  | [], [], _, _, _, _ => rfl
  | [], _ :: _, _, _, h, _ => by simp at h
  | _ :: _, [], _, _, h, _ => by simp at h
  | b :: l, c :: m, hl, hm, h, e => by
    have h1 := hl b (by simp)
    have h2 := hm c (by simp)
    simp only [leN] at e
    have e1 : b = c := by omega
    subst e1
    rw [leN_inj hl.tail hm.tail (by simpa using h) (by omega)]
def ofN (v : Nat) : Nat → List Int
  | 0 => []
  | n + 1 => ((v % 2 : Nat) : Int) :: ofN (v / 2) n
theorem ofN_length : ∀ (n v : Nat), (ofN v n).length = n
  | 0, _ => rfl
  | n + 1, v => by simp [ofN, ofN_length n]
theorem ofN_isN : ∀ (n v : Nat), isN (ofN v n)
  | 0, _ => by simp [ofN, isN]
  | n + 1, v => fun b hb => by
    rcases List.mem_cons.1 hb with rfl | hb
    · omega
    · exact ofN_isN n _ b hb
theorem leN_ofN : ∀ (n v : Nat), leN (ofN v n) = v % 2 ^ n
  | 0, v => by simp [ofN, leN, Nat.mod_one]
  | n + 1, v => by
    simp only [ofN, leN, leN_ofN n, Nat.pow_succ]
    rw [Nat.mul_comm (2 ^ n) 2, Nat.mod_mul]
    omega
theorem ofN_snoc : ∀ (n v : Nat), ofN v (n + 1) = ofN v n ++ [((v / 2 ^ n % 2 : Nat) : Int)]
  | 0, v => by simp [ofN]
  | n + 1, v => by
    rw [ofN, ofN_snoc n (v / 2), ofN, List.cons_append, Nat.div_div_eq_div_mul, Nat.pow_succ, Nat.mul_comm 2]
theorem size_toBytes (s : ByteArray) : (toBytes s).length = s.size := by
  unfold toBytes; rw [List.length_map, Array.length_toList]; rfl
theorem isB_toBytes (s : ByteArray) : isB (toBytes s) := fun b hb => by
  simp only [toBytes, List.mem_map] at hb
  obtain ⟨x, _, rfl⟩ := hb
  have := x.toNat_lt
  omega
theorem size_ofBytes (l : List Int) : (ofBytes l).size = l.length := by
  simp [ofBytes, ByteArray.size]
theorem ofBytes_nil : ofBytes [] = ⟨#[]⟩ := rfl
theorem toBytes_ofBytes {l : List Int} (h : isB l) : toBytes (ofBytes l) = l := by
  simp only [toBytes, ofBytes, List.map_map]
  induction l with
  | nil => rfl
  | cons b l ih =>
    have hb := h b (by simp)
    simp only [List.map_cons, Function.comp]
    rw [ih h.tail]
    congr 1
    simp only [UInt8.toNat_ofNat']
    omega
theorem ofBytes_toBytes (s : ByteArray) : ofBytes (toBytes s) = s := by
  obtain ⟨⟨l⟩⟩ := s
  simp only [toBytes, ofBytes, List.map_map]
  congr 2
  induction l with
  | nil => rfl
  | cons x l ih =>
    simp only [List.map_cons, Function.comp, ih]
    congr 1
    simp
theorem ofBytes_append (l m : List Int) : ofBytes l ++ ofBytes m = ofBytes (l ++ m) := by
  apply ByteArray.ext
  simp [ofBytes]
theorem ofBytes_extract (l : List Int) (a b : Nat) : (ofBytes l).extract a b = ofBytes ((l.drop a).take (b - a)) := by
  apply ByteArray.ext
  simp [ofBytes, ByteArray.data_extract, List.extract_eq_take_drop]
theorem ofBytes_inj {l m : List Int} (hl : isB l) (hm : isB m) : ofBytes l = ofBytes m ↔ l = m :=
  ⟨fun h => by rw [← toBytes_ofBytes hl, h, toBytes_ofBytes hm], fun h => by rw [h]⟩
theorem beqS (a b : ByteArray) : (a.toList == b.toList) = decide (a = b) := by
  rw [Bool.eq_iff_iff]
  simp only [beq_iff_eq, decide_eq_true_eq, ByteArray.toList_eq]
  constructor
  · intro h
    apply ByteArray.ext
    exact Array.toList_inj.1 h
  · intro h; rw [h]
theorem eqS {l m : List Int} (hl : isB l) (hm : isB m) : ((ofBytes l).toList == (ofBytes m).toList) = decide (l = m) := by
  rw [beqS]
  exact decide_eq_decide.2 (ofBytes_inj hl hm)
theorem eqS0 (l : List Int) : ((ofBytes l).toList == ({ data := #[] } : ByteArray).toList) = decide (l = []) := by
  rw [beqS]
  refine decide_eq_decide.2 ⟨fun h => ?_, fun h => by rw [h]; rfl⟩
  have := congrArg ByteArray.size h
  rw [size_ofBytes] at this
  exact List.eq_nil_of_length_eq_zero this
theorem emptyS (l : List Int) : (ofBytes l).toList.isEmpty = decide (l = []) := by
  rw [ByteArray.toList_eq]
  cases l <;> simp [ofBytes]
theorem empty_ofBytes : ByteArray.empty = ofBytes [] := rfl
theorem isB_append {l m : List Int} (hl : isB l) (hm : isB m) : isB (l ++ m) := fun b hb => by
  rcases List.mem_append.1 hb with h | h
  · exact hl b h
  · exact hm b h
theorem isB_take {l : List Int} (n : Nat) (hl : isB l) : isB (l.take n) := fun b hb => hl b (List.mem_of_mem_take hb)
theorem isB_drop {l : List Int} (n : Nat) (hl : isB l) : isB (l.drop n) := fun b hb => hl b (List.mem_of_mem_drop hb)
theorem isB_one {b : Int} (h : 0 ≤ b ∧ b < 256) : isB [b] := fun x hx => by
  simp only [List.mem_cons, List.not_mem_nil, or_false] at hx
  omega
theorem loopUp {body : St → Option (Ex × St)} {live : List Nat} {canon : Nat → St} {n x : Nat} {fin : St} (hn : ∀ i, i < n → ∃ st1, body (canon i) = some (.norm, st1) ∧ St.head live st1 = canon (i + 1)) (he : body (canon n) = some (.exit x, fin)) (hK : n + 1 < KK) : loopH body live KK (canon 0) = some (.exit x, fin) := by
  have key : ∀ (m i K : Nat), i + m = n → m + 1 < K → loopH body live K (canon i) = some (.exit x, fin) := by
    intro m
    induction m with
    | zero => intro i K h1 h2; obtain rfl : i = n := by omega
              exact loopH_exit he
    | succ m ih =>
      intro i K h1 h2
      obtain ⟨st1, h3, h4⟩ := hn i (by omega)
      rw [loopH_norm h3 (by omega), h4]
      exact ih (i + 1) (K - 1) (by omega) (by omega)
  exact key n 0 KK (by omega) hK
theorem loopFirst {body : St → Option (Ex × St)} {live : List Nat} {canon : Nat → St} {n x : Nat} {fin : St} {rs : List (Nat × Option (Option Nat))} {R : Nat → Res} (p : Nat → Bool)
    (hn : ∀ i, i < n → p i = false → ∃ st1, body (canon i) = some (.norm, st1) ∧ St.head live st1 = canon (i + 1)) (hr : ∀ i, i < n → p i = true → ∃ st1, body (canon i) = some (.ret, st1) ∧ resC rs (some (.ret, st1)) = R i)
    (he : body (canon n) = some (.exit x, fin)) (hK : n + 1 < KK) :
    ((∀ i, i < n → p i = false) ∧ loopH body live KK (canon 0) = some (.exit x, fin)) ∨ ∃ i st1, i < n ∧ p i = true ∧ (∀ j, j < i → p j = false) ∧ loopH body live KK (canon 0) = some (.ret, st1) ∧ resC rs (some (.ret, st1)) = R i := by
  have key : ∀ (m i K : Nat), i + m = n → m + 1 < K → (∀ j, j < i → p j = false) → ((∀ i, i < n → p i = false) ∧ loopH body live K (canon i) = some (.exit x, fin)) ∨ ∃ k st1, k < n ∧ p k = true ∧ (∀ j, j < k → p j = false) ∧ loopH body live K (canon i) = some (.ret, st1) ∧ resC rs (some (.ret, st1)) = R k := by
    intro m
    induction m with
    | zero =>
      intro i K h1 h2 hp
      obtain rfl : i = n := by omega
      exact .inl ⟨hp, loopH_exit he⟩
    | succ m ih =>
      intro i K h1 h2 hp
      cases hpi : p i with
      | true =>
        obtain ⟨st1, h3, h4⟩ := hr i (by omega) hpi
        exact .inr ⟨i, st1, by omega, hpi, hp, loopH_ret h3, h4⟩
      | false =>
        obtain ⟨st1, h3, h4⟩ := hn i (by omega) hpi
        rw [loopH_norm h3 (by omega), h4]
        refine ih (i + 1) (K - 1) (by omega) (by omega) fun j hj => ?_
        by_cases e : j = i
        · rw [e]; exact hpi
        · exact hp j (by omega)
  exact key n 0 KK (by omega) hK (fun j hj => by omega)
end Go.X
namespace Go.Proofs
open Go.RowKit
theorem k41 (x : Int) (w : World) : Calls Try.prog 41 #[.int .i64 x] w fun e w' => e = .returned (.bool false) ∧ w' = w := by
  go_enter Try.func41, Try.ntmps41
  go_wp2
  go_ret
  exact ⟨by simp, rfl⟩
def cmpI (x y : Int) : Int := if x < y then -1 else if y < x then 1 else 0
theorem k35 (x y : Int) (w : World) : Calls Try.prog 35 #[.int .i64 x, .int .i64 y] w fun e w' => e = .returned (.int .i64 (cmpI x y)) ∧ w' = w := by
  unfold cmpI
  by_cases h : x < y
  · rw [if_pos h]
    go_enter Try.func35, Try.ntmps35
    go_wp2_with (go_at_call 41; refine (k41 _ _).mono ?_; rintro e w' ⟨rfl, rfl⟩)
    all_goals (go_ret; exact ⟨rfl, rfl⟩)
  · rw [if_neg h]
    by_cases h2 : y < x
    · rw [if_pos h2]
      go_enter Try.func35, Try.ntmps35
      go_wp2_with (go_at_call 41; refine (k41 _ _).mono ?_; rintro e w' ⟨rfl, rfl⟩)
      all_goals (go_ret; exact ⟨rfl, rfl⟩)
    · rw [if_neg h2]
      go_enter Try.func35, Try.ntmps35
      go_wp2_with (go_at_call 41; refine (k41 _ _).mono ?_; rintro e w' ⟨rfl, rfl⟩)
      all_goals (go_ret; exact ⟨rfl, rfl⟩)
def orI (x y : Int) : Int := if x = 0 then y else x
set_option maxHeartbeats 1000000 in
theorem k34 (b : Nat) (x y : Int) (cap : Nat) (w : World) (h0 : w.cell? ⟨b, 0, none⟩ = some (.int .i64 x)) (h1 : w.cell? ⟨b, 1, none⟩ = some (.int .i64 y)) :
    Calls Try.prog 34 #[.slice (some ⟨b, 0, none⟩) 2 cap] w fun e w' => e = .returned (.int .i64 (orI x y)) ∧ w' = w := by
  unfold orI
  by_cases hx : x = 0
  · rw [if_pos hx]
    subst hx
    by_cases hy : y = 0
    · subst hy
      go_enter Try.func34, Try.ntmps34
      go_wp2
      refine wp_loop_rounds 3 ?_
      rw [rounds_succ]
      go_wp2
      rw [rounds_succ]
      go_wp2
      rw [rounds_succ]
      go_wp2
      go_ret
      exact ⟨rfl, rfl⟩
    · go_enter Try.func34, Try.ntmps34
      go_wp2
      refine wp_loop_rounds 3 ?_
      rw [rounds_succ]
      go_wp2
      rw [rounds_succ]
      go_wp2
      go_ret
      exact ⟨rfl, rfl⟩
  · rw [if_neg hx]
    go_enter Try.func34, Try.ntmps34
    go_wp2
    refine wp_loop_rounds 3 ?_
    rw [rounds_succ]
    go_wp2
    go_ret
    exact ⟨rfl, rfl⟩
open Go.RowKit Go.Sort
def atI (now : List Int) (n : Nat) (K i : Int) : Int := if i + K < n then now.getD (i + K).toNat 0 else -1
structure Cmp (w : World) (b1 b4 b6 bn on cap : Nat) (text : ByteArray) (K : Int) (now : List Int) : Prop where
  h1 : w.cell? ⟨b1, 0, none⟩ = some (.string text)
  h4 : w.cell? ⟨b4, 0, none⟩ = some (.slice (some ⟨bn, on, none⟩) now.length cap)
  h6 : w.cell? ⟨b6, 0, none⟩ = some (.int .i64 K)
  hn : ∀ j, j < now.length → w.cell? ⟨bn, on + j, none⟩ = some (.int .i64 (now.getD j 0))
theorem k32 {w : World} {b1 b4 b6 bn on cap : Nat} {text : ByteArray} {K : Int} {now : List Int} (h : Cmp w b1 b4 b6 bn on cap text K now) (hl : text.size = now.length) (hn : now.length ≤ 100000) (hK : 0 ≤ K ∧ K ≤ 1000000) (i : Nat) (hi : i < now.length) :
    Calls Try.prog 32 #[.int .i64 i, .pointer (some ⟨b6, 0, none⟩), .pointer (some ⟨b1, 0, none⟩), .pointer (some ⟨b4, 0, none⟩)] w fun e w' => e = .returned (.int .i64 (atI now now.length K i)) ∧ w' = w := by
  obtain ⟨h1, h4, h6, hn'⟩ := h
  obtain ⟨k, rfl⟩ : ∃ k : Nat, K = k := ⟨K.toNat, by omega⟩
  have w1 : IntKind.i64.wrap ((i : Int) + k) = i + k := Go.IntWalk.i64_in _ (by omega)
  unfold atI
  by_cases hik : i + k < now.length
  · have hx := hn' (i + k) hik
    have e1 : ((i : Int) + k).toNat = i + k := by omega
    rw [if_pos (by omega), e1]
    obtain ⟨v, hv⟩ : ∃ v, now.getD (i + k) 0 = v := ⟨_, rfl⟩
    rw [hv] at hx ⊢
    have c1 : (i : Int) + k < text.size := by omega
    have c2 : (i : Int) + k < now.length := by omega
    clear hn' hv
    go_enter Try.func32, Try.ntmps32
    go_wp2
    go_ret
    exact ⟨rfl, rfl⟩
  · rw [if_neg (by omega)]
    have c1 : ¬ (i : Int) + k < text.size := by omega
    go_enter Try.func32, Try.ntmps32
    go_wp2
    go_ret
    exact ⟨rfl, rfl⟩
def cmpV (now : List Int) (K x y : Int) : Int := orI (cmpI (now.getD x.toNat 0) (now.getD y.toNat 0)) (cmpI (atI now now.length K x) (atI now now.length K y))
set_option maxHeartbeats 2000000 in
theorem k33 {w : World} {b1 b4 b6 b7 bn on cap : Nat} {text : ByteArray} {K : Int} {now : List Int} (h : Cmp w b1 b4 b6 bn on cap text K now) (h7 : w.cell? ⟨b7, 0, none⟩ = some (.func (.func 32) #[] #[.pointer (some ⟨b6, 0, none⟩), .pointer (some ⟨b1, 0, none⟩), .pointer (some ⟨b4, 0, none⟩)]))
    (hl : text.size = now.length) (hn : now.length ≤ 100000) (hK : 0 ≤ K ∧ K ≤ 1000000) (i j : Nat) (hi : i < now.length) (hj : j < now.length) :
    Calls Try.prog 33 #[.int .i64 i, .int .i64 j, .pointer (some ⟨b4, 0, none⟩), .pointer (some ⟨b7, 0, none⟩)] w fun e w' => e = .returned (.int .i64 (cmpV now K i j)) ∧ ∃ q os, w' = grow (w.drewN q) os := by
  have hW : ∀ i : Nat, i < now.length → Calls Try.prog 32 #[.int .i64 i, .pointer (some ⟨b6, 0, none⟩), .pointer (some ⟨b1, 0, none⟩), .pointer (some ⟨b4, 0, none⟩)] w.drew fun e w' => e = .returned (.int .i64 (atI now now.length K i)) ∧ w' = w.drew := fun i hi => k32 (w := w.drew) ⟨h.h1, h.h4, h.h6, h.hn⟩ hl hn hK i hi
  have c4 := h.h4
  have ci := h.hn i hi
  have cj := h.hn j hj
  have hi' : (i : Int) < now.length := by omega
  have hj' : (j : Int) < now.length := by omega
  have mixed : Try.prog.follows .mixedOrders = true := by kernel_rfl
  unfold cmpV
  rw [show (i : Int).toNat = i by omega, show (j : Int).toNat = j by omega]
  obtain ⟨x, hx⟩ : ∃ x, now.getD i 0 = x := ⟨_, rfl⟩
  obtain ⟨y, hy⟩ : ∃ x, now.getD j 0 = x := ⟨_, rfl⟩
  have hWi := hW i hi
  have hWj := hW j hj
  clear hW h
  generalize atI now now.length K i = ai at *
  generalize atI now now.length K j = aj at *
  rw [hx] at ci ⊢
  rw [hy] at cj ⊢
  have kx := k35 x y
  have ka := k35 ai aj
  generalize cmpI x y = c1 at *
  generalize cmpI ai aj = c2 at *
  go_enter Try.func33, Try.ntmps33
  go_wp2_with fail
  refine wp_region_still_tail 16 mixed (by kernel_rfl) ?_
  simp only [List.take_succ_cons, List.take_zero, List.drop_succ_cons, List.drop_zero]
  repeat still_step
  still_call (kx _)
  repeat still_step
  still_call hWi
  repeat still_step
  still_call hWj
  still_call (ka _)
  refine wpStill_nil ?_
  change wpList _ _ _ _ _ w.drew
  clear hWi hWj c4 ci cj h7 kx ka
  obtain ⟨w2, hw2⟩ : ∃ w2, w2 = w.drew := ⟨_, rfl⟩
  have e2 : w2 = w.drewN 1 := hw2
  rw [← hw2]
  clear hw2
  subst e2
  go_wp2_with (go_at_call 34; refine (k34 w.heap.size c1 c2 2 _ (by simp [World.cell?, World.alloc]) (by simp [World.cell?, World.alloc])).mono ?_; rintro e w' ⟨rfl, rfl⟩)
  go_ret
  exact ⟨rfl, 1, #[Obj.cells #[Value.int IntKind.i64 c1, Value.int IntKind.i64 c2] 3], by rw [alloc_eq_grow]⟩
open Go.Shelf
def Try.lays106_ren : Go.Shelf.Ren := ⟨fun | 106 => 26 | 213 => 37 | 265 => 43 | n => n, fun | 9 => 9 | 3 => 3 | n => n, fun | n => n⟩
theorem Try.lays106 : Go.Proofs.Lays.n106 Try.prog Try.lays106_ren := {
  mixed := by kernel_rfl
  f106 := Try.func26.trans (congrArg some (by kernel_rfl))
  f213 := Try.func37.trans (congrArg some (by kernel_rfl))
  f265 := Try.func43.trans (congrArg some (by kernel_rfl))
  t3 := Try.underlying3
  a3 := Try.isAgg3
  z3 := Try.sizeOf3
  v3 := Try.zeroValue3
  t9 := Try.underlying9
  a9 := Try.isAgg9
  z9 := Try.sizeOf9
  v9 := Try.zeroValue9 }
open Go.RowKit in
theorem Try.strings_Compare (a b : ByteArray) (w : World) :
    Calls Try.prog 26 #[.string a, .string b] w fun e w' => e = .returned (.int .i64 (Lib.compareBytes a.data.toList b.data.toList)) ∧ w' = w := Any.strings_Compare Try.lays106 a b w
def Try.lays189_ren : Go.Shelf.Ren := ⟨fun | 189 => 29 | 125 => 40 | 257 => 39 | 128 => 53 | 129 => 54 | 294 => 44 | 295 => 45 | 296 => 46 | 297 => 47 | 298 => 48 | 299 => 49 | 216 => 50 | 300 => 51 | 301 => 52 | 328 => 63 | 329 => 64 | 330 => 65 | 331 => 66 | 332 => 67 | 215 => 41 | 343 => 71 | n => n, fun | 28 => 25 | 3 => 3 | 46 => 53 | 0 => 0 | 51 => 67 | 53 => 69 | 4 => 4 | 183 => 60 | 182 => 59 | 131 => 28 | 5 => 5 | 9 => 9 | 218 => 75 | 222 => 79 | 228 => 83 | 229 => 34 | n => n, fun | n => n⟩
theorem Try.lays189 : Go.Proofs.Lays.n189 Try.prog Try.lays189_ren := {
  mixed := by kernel_rfl
  f125 := Try.func40.trans (congrArg some (by kernel_rfl))
  f128 := Try.func53.trans (congrArg some (by kernel_rfl))
  f129 := Try.func54.trans (congrArg some (by kernel_rfl))
  f189 := Try.func29.trans (congrArg some (by kernel_rfl))
  f215 := Try.func41.trans (congrArg some (by kernel_rfl))
  f216 := Try.func50.trans (congrArg some (by kernel_rfl))
  f257 := Try.func39.trans (congrArg some (by kernel_rfl))
  f294 := Try.func44.trans (congrArg some (by kernel_rfl))
  f295 := Try.func45.trans (congrArg some (by kernel_rfl))
  f296 := Try.func46.trans (congrArg some (by kernel_rfl))
  f297 := Try.func47.trans (congrArg some (by kernel_rfl))
  f298 := Try.func48.trans (congrArg some (by kernel_rfl))
  f299 := Try.func49.trans (congrArg some (by kernel_rfl))
  f300 := Try.func51.trans (congrArg some (by kernel_rfl))
  f301 := Try.func52.trans (congrArg some (by kernel_rfl))
  f328 := Try.func63.trans (congrArg some (by kernel_rfl))
  f329 := Try.func64.trans (congrArg some (by kernel_rfl))
  f330 := Try.func65.trans (congrArg some (by kernel_rfl))
  f331 := Try.func66.trans (congrArg some (by kernel_rfl))
  f332 := Try.func67.trans (congrArg some (by kernel_rfl))
  f343 := Try.func71.trans (congrArg some (by kernel_rfl))
  t0 := Try.underlying0
  a0 := Try.isAgg0
  z0 := Try.sizeOf0
  v0 := Try.zeroValue0
  t3 := Try.underlying3
  a3 := Try.isAgg3
  z3 := Try.sizeOf3
  v3 := Try.zeroValue3
  t4 := Try.underlying4
  a4 := Try.isAgg4
  z4 := Try.sizeOf4
  v4 := Try.zeroValue4
  t5 := Try.underlying5
  a5 := Try.isAgg5
  z5 := Try.sizeOf5
  v5 := Try.zeroValue5
  t9 := Try.underlying9
  a9 := Try.isAgg9
  z9 := Try.sizeOf9
  v9 := Try.zeroValue9
  t28 := Try.underlying25
  a28 := Try.isAgg25
  z28 := Try.sizeOf25
  v28 := Try.zeroValue25
  t46 := Try.underlying53
  a46 := Try.isAgg53
  z46 := Try.sizeOf53
  v46 := Try.zeroValue53
  t51 := Try.underlying67
  a51 := Try.isAgg67
  z51 := Try.sizeOf67
  v51 := Try.zeroValue67
  t53 := Try.underlying69
  a53 := Try.isAgg69
  z53 := Try.sizeOf69
  v53 := Try.zeroValue69
  t131 := Try.underlying28
  a131 := Try.isAgg28
  z131 := Try.sizeOf28
  v131 := Try.zeroValue28
  t182 := Try.underlying59
  a182 := Try.isAgg59
  z182 := Try.sizeOf59
  v182 := Try.zeroValue59
  t183 := Try.underlying60
  a183 := Try.isAgg60
  z183 := Try.sizeOf60
  v183 := Try.zeroValue60
  t218 := Try.underlying75
  a218 := Try.isAgg75
  z218 := Try.sizeOf75
  v218 := Try.zeroValue75
  t222 := Try.underlying79
  a222 := Try.isAgg79
  z222 := Try.sizeOf79
  v222 := Try.zeroValue79
  t228 := Try.underlying83
  a228 := Try.isAgg83
  z228 := Try.sizeOf83
  v228 := Try.zeroValue83
  t229 := Try.underlying34
  a229 := Try.isAgg34
  z229 := Try.sizeOf34
  v229 := Try.zeroValue34 }
open Go.Sort Go.RowKit in
theorem Try.slices_Sort_int (blk off cap : Nat) (zs : List Int) (w : World) (hH : Holds (Value.int .i64) w blk off zs.toArray) (hblk : blk < w.heap.size) (hsz : zs.length < 4611686018427387904) :
    Calls Try.prog 29 #[.slice (some ⟨blk, off, none⟩) zs.length cap] w fun e w' =>
      e = .returned (.tuple #[]) ∧ ∃ n os, w' = grow (putRow (Value.int .i64) (Sort.ahead w n) blk off (zs.mergeSort fun x y => decide (x ≤ y)).toArray) os := Any.slices_Sort_int Try.lays189 blk off cap zs w hH hblk hsz
def Try.laysNm215_ren : Go.Shelf.Ren := ⟨fun | 15 => 28 | n => n, fun | 22 => 25 | 3 => 3 | 4 => 4 | n => n, fun | n => n⟩
theorem Try.laysNm215 : Go.Proofs.Lays2.n15 Try.prog Try.laysNm215_ren := {
  mixed := by kernel_rfl
  f15 := Try.func28.trans (congrArg some (by kernel_rfl))
  t3 := Try.underlying3
  a3 := Try.isAgg3
  z3 := Try.sizeOf3
  v3 := Try.zeroValue3
  t4 := Try.underlying4
  a4 := Try.isAgg4
  z4 := Try.sizeOf4
  v4 := Try.zeroValue4
  t22 := Try.underlying25
  a22 := Try.isAgg25
  z22 := Try.sizeOf25
  v22 := Try.zeroValue25
  i3 := by kernel_rfl }
open Go.RowKit Go.Lib in
theorem Try.slices_Clone_int (b off n c : Nat) (zs : List Int) (w : World) (hz : n ≤ zs.length) (hbig : n * 8 ≤ 140737488355328) (hc : ∀ j, j < zs.length → w.cell? ⟨b, off + j, none⟩ = some (.int .i64 (zs.getD j 0))) :
    Calls Try.prog 28 #[.slice (some ⟨b, off, none⟩) n c] w fun e w' => ∃ v', e = .returned v' ∧ w'.ownsRow w.heap.size 3 1 v' n ((zs.take n).map (Value.int .i64)) ∧ v' ≠ .slice none 0 0 ∧ Below w.heap.size w w' := Any.slices_Clone_int Try.laysNm215 b off n c zs w hz hbig hc
open Go.RowKit Go.Lib in
theorem Try.slices_Clone_int_nil (n c : Nat) (w : World) :
    Calls Try.prog 28 #[.slice none n c] w fun e w' => e = .returned (.slice none 0 0) ∧ w' = w := Any.slices_Clone_int_nil Try.laysNm215 n c w
open Go.RowKit Go.Lib in
theorem Try.slices_Clone_int_zero (a : Addr) (c : Nat) (w : World) :
    Calls Try.prog 28 #[.slice (some a) 0 c] w fun e w' => ∃ v', e = .returned v' ∧ w'.ownsRow w.heap.size 3 1 v' 0 [] ∧ v' ≠ .slice none 0 0 ∧ Below w.heap.size w w' := Any.slices_Clone_int_zero Try.laysNm215 a c w
open Go.RowKit Go.Sort in
theorem Try.slices_Sort_int_none (p : Option Addr) (cap : Nat) (w : World) :
    Calls Try.prog 29 #[.slice p 0 cap] w fun e w' => e = .returned (.tuple #[]) ∧ w' = w := Any.slices_Sort_int_none Try.lays189 p cap w
def Try.laysSlF6_f36_ren : Go.Shelf.Ren := ⟨fun | 6 => 36 | 15 => 40 | 14 => 42 | 28 => 53 | 29 => 54 | 20 => 55 | 21 => 56 | 22 => 57 | 23 => 58 | 24 => 59 | 25 => 60 | 26 => 61 | 27 => 62 | 46 => 68 | 47 => 64 | 48 => 65 | 49 => 69 | 50 => 70 | 57 => 72 | n => n, fun | 22 => 25 | 24 => 3 | 25 => 51 | 3 => 3 | 39 => 53 | 0 => 0 | 53 => 67 | 55 => 69 | 4 => 4 | 46 => 60 | 45 => 59 | 50 => 28 | 5 => 5 | 9 => 9 | 66 => 75 | 70 => 79 | 76 => 83 | 77 => 34 | n => n, fun | n => n⟩
theorem Try.laysSlF6_f36 : Go.Proofs.SlLaysF.n6 Try.prog Try.laysSlF6_f36_ren := {
  mixed := by kernel_rfl
  f6 := ⟨Try.f36.name, by decide, Try.func36.trans (congrArg some (by kernel_rfl))⟩
  f14 := ⟨Try.f42.name, by decide, Try.func42.trans (congrArg some (by kernel_rfl))⟩
  f15 := Try.func40.trans (congrArg some (by kernel_rfl))
  f20 := ⟨Try.f55.name, by decide, Try.func55.trans (congrArg some (by kernel_rfl))⟩
  f21 := ⟨Try.f56.name, by decide, Try.func56.trans (congrArg some (by kernel_rfl))⟩
  f22 := ⟨Try.f57.name, by decide, Try.func57.trans (congrArg some (by kernel_rfl))⟩
  f23 := ⟨Try.f58.name, by decide, Try.func58.trans (congrArg some (by kernel_rfl))⟩
  f24 := ⟨Try.f59.name, by decide, Try.func59.trans (congrArg some (by kernel_rfl))⟩
  f25 := ⟨Try.f60.name, by decide, Try.func60.trans (congrArg some (by kernel_rfl))⟩
  f26 := ⟨Try.f61.name, by decide, Try.func61.trans (congrArg some (by kernel_rfl))⟩
  f27 := ⟨Try.f62.name, by decide, Try.func62.trans (congrArg some (by kernel_rfl))⟩
  f28 := Try.func53.trans (congrArg some (by kernel_rfl))
  f29 := Try.func54.trans (congrArg some (by kernel_rfl))
  f46 := ⟨Try.f68.name, by decide, Try.func68.trans (congrArg some (by kernel_rfl))⟩
  f47 := Try.func64.trans (congrArg some (by kernel_rfl))
  f48 := Try.func65.trans (congrArg some (by kernel_rfl))
  f49 := ⟨Try.f69.name, by decide, Try.func69.trans (congrArg some (by kernel_rfl))⟩
  f50 := ⟨Try.f70.name, by decide, Try.func70.trans (congrArg some (by kernel_rfl))⟩
  f57 := ⟨Try.f72.name, by decide, Try.func72.trans (congrArg some (by kernel_rfl))⟩
  t0 := Try.underlying0
  a0 := Try.isAgg0
  z0 := Try.sizeOf0
  v0 := Try.zeroValue0
  t3 := Try.underlying3
  a3 := Try.isAgg3
  z3 := Try.sizeOf3
  v3 := Try.zeroValue3
  t4 := Try.underlying4
  a4 := Try.isAgg4
  z4 := Try.sizeOf4
  v4 := Try.zeroValue4
  t5 := Try.underlying5
  a5 := Try.isAgg5
  z5 := Try.sizeOf5
  v5 := Try.zeroValue5
  t9 := Try.underlying9
  a9 := Try.isAgg9
  z9 := Try.sizeOf9
  v9 := Try.zeroValue9
  t22 := Try.underlying25
  a22 := Try.isAgg25
  z22 := Try.sizeOf25
  v22 := Try.zeroValue25
  a24 := Try.isAgg3
  z24 := Try.sizeOf3
  t25 := Try.underlying51
  a25 := Try.isAgg51
  z25 := Try.sizeOf51
  v25 := Try.zeroValue51
  t39 := Try.underlying53
  a39 := Try.isAgg53
  z39 := Try.sizeOf53
  v39 := Try.zeroValue53
  t45 := Try.underlying59
  a45 := Try.isAgg59
  z45 := Try.sizeOf59
  v45 := Try.zeroValue59
  t46 := Try.underlying60
  a46 := Try.isAgg60
  z46 := Try.sizeOf60
  v46 := Try.zeroValue60
  t50 := Try.underlying28
  a50 := Try.isAgg28
  z50 := Try.sizeOf28
  v50 := Try.zeroValue28
  t53 := Try.underlying67
  a53 := Try.isAgg67
  z53 := Try.sizeOf67
  v53 := Try.zeroValue67
  t55 := Try.underlying69
  a55 := Try.isAgg69
  z55 := Try.sizeOf69
  v55 := Try.zeroValue69
  t66 := Try.underlying75
  a66 := Try.isAgg75
  z66 := Try.sizeOf75
  v66 := Try.zeroValue75
  t70 := Try.underlying79
  a70 := Try.isAgg79
  z70 := Try.sizeOf79
  v70 := Try.zeroValue79
  t76 := Try.underlying83
  a76 := Try.isAgg83
  z76 := Try.sizeOf83
  v76 := Try.zeroValue83
  t77 := Try.underlying34
  a77 := Try.isAgg34
  z77 := Try.sizeOf34
  v77 := Try.zeroValue34 }
open Go.RowKit Go.Lib Go.Sort in
theorem Try.slices_SortFunc_eq {α : Type} [Inhabited α] (enc : α → Value) (h1 : OneCell enc) (cf : α → α → Int) (hO : SWO (ltOf cf)) (g : Nat) (cb : Array Value) (blk off cap : Nat) (d : Array α) (w : World) (eg : ∀ args w, (callFunc g args).run Try.prog w = .ok (.enter g args) w) (hcmp : CmpLays1 Try.prog g cb enc cf blk off d.size w) (hH : Holds enc w blk off d) (hblk : blk < w.heap.size) (hsz : d.size < 4611686018427387904) :
    Calls Try.prog 36 #[.slice (some ⟨blk, off, none⟩) d.size cap, .func (.func g) #[] cb] w fun e w' =>
      e = .returned (.tuple #[]) ∧ ∃ n os, w' = sortWorld enc w blk off n (pdq (ltOf cf) d 0 d.size (Lib.bitLen d.size) true true) os := Any.slices_SortFunc_eq Try.laysSlF6_f36 enc h1 cf hO g cb blk off cap d w eg hcmp hH hblk hsz
open Go.RowKit Go.Lib Go.Sort in
theorem Try.slices_SortFunc {α : Type} [Inhabited α] (enc : α → Value) (h1 : OneCell enc) (cf : α → α → Int) (hO : SWO (ltOf cf)) (g : Nat) (cb : Array Value) (blk off cap : Nat) (d : Array α) (w : World) (eg : ∀ args w, (callFunc g args).run Try.prog w = .ok (.enter g args) w) (hcmp : CmpLays1 Try.prog g cb enc cf blk off d.size w) (hH : Holds enc w blk off d) (hblk : blk < w.heap.size) (hsz : d.size < 4611686018427387904) :
    Calls Try.prog 36 #[.slice (some ⟨blk, off, none⟩) d.size cap, .func (.func g) #[] cb] w fun e w' =>
      e = .returned (.tuple #[]) ∧ ∃ d' n os, PermIn 0 d.size d d' ∧ SortedIn (ltOf cf) 0 d.size d' ∧ w' = sortWorld enc w blk off n d' os := Any.slices_SortFunc Try.laysSlF6_f36 enc h1 cf hO g cb blk off cap d w eg hcmp hH hblk hsz
open Go.RowKit Go.X Go.Sort Go.Shelf
theorem orI_neg (x y : Int) : orI x y < 0 ↔ x < 0 ∨ (x = 0 ∧ y < 0) := by
  unfold orI; split <;> omega
theorem cmpI_neg (x y : Int) : cmpI x y < 0 ↔ x < y := by unfold cmpI; split <;> (try split) <;> omega
theorem cmpI_zero (x y : Int) : cmpI x y = 0 ↔ x = y := by unfold cmpI; split <;> (try split) <;> omega
theorem cmpV_neg (now : List Int) (K x y : Int) : cmpV now K x y < 0 ↔ now.getD x.toNat 0 < now.getD y.toNat 0 ∨ (now.getD x.toNat 0 = now.getD y.toNat 0 ∧ atI now now.length K x < atI now now.length K y) := by
  unfold cmpV; rw [orI_neg, cmpI_neg, cmpI_zero, cmpI_neg]
abbrev Pl (now : List Int) : Type := Fin (now.length - 1 + 1)
def plE (now : List Int) (i : Pl now) : Value := .int .i64 i.val
def plC (now : List Int) (K : Int) (i j : Pl now) : Int := cmpV now K i.val j.val
theorem plC_swo (now : List Int) (K : Int) : SWO (ltOf (plC now K)) where
  irrefl x := by simp only [ltOf, plC, decide_eq_false_iff_not, cmpV_neg]; omega
  trans x y z h1 h2 := by simp only [ltOf, plC, decide_eq_true_eq, cmpV_neg] at *; omega
  ntrans x y z h1 h2 := by simp only [ltOf, plC, decide_eq_false_iff_not, cmpV_neg] at *; omega
def plD (now xs : List Int) : Array (Pl now) := (xs.map fun x => Fin.ofNat (now.length - 1 + 1) x.toNat).toArray
def srtD (now xs : List Int) (K : Int) : Array (Pl now) := pdq (ltOf (plC now K)) (plD now xs) 0 (plD now xs).size (Lib.bitLen (plD now xs).size) true true
def srtI (now xs : List Int) (K : Int) : List Int := (srtD now xs K).toList.map fun i => (i.val : Int)
theorem srtD_ok (now xs : List Int) (K : Int) : PermIn 0 (plD now xs).size (plD now xs) (srtD now xs K) ∧ SortedIn (ltOf (plC now K)) 0 (plD now xs).size (srtD now xs K) := by
  have h := pdq_sorts (ltOf (plC now K)) (plC_swo now K) (plD now xs) 0 (plD now xs).size (Lib.bitLen (plD now xs).size) true true (Nat.zero_le _) (Nat.le_refl _) (Or.inl rfl)
  exact ⟨h.1, h.2⟩
def okS (xs now : List Int) (text : ByteArray) (K : Int) : Bool := decide (xs ≠ []) && decide (xs.length ≤ 100000) && xs.all (fun x => decide (0 ≤ x) && decide (x < now.length)) && decide (text.size = now.length) && decide (now.length ≤ 100000) && decide (0 ≤ K) && decide (K ≤ 1000000)
theorem okS_iff {xs now : List Int} {text : ByteArray} {K : Int} : okS xs now text K = true ↔ xs ≠ [] ∧ xs.length ≤ 100000 ∧ (∀ x ∈ xs, 0 ≤ x ∧ x < now.length) ∧ text.size = now.length ∧ now.length ≤ 100000 ∧ 0 ≤ K ∧ K ≤ 1000000 := by
  simp only [okS, Bool.and_eq_true, decide_eq_true_eq, List.all_eq_true]
  constructor
  · rintro ⟨⟨⟨⟨⟨⟨a, b⟩, c⟩, d⟩, e⟩, f⟩, g⟩; exact ⟨a, b, c, d, e, f, g⟩
  · rintro ⟨a, b, c, d, e, f, g⟩; exact ⟨⟨⟨⟨⟨⟨a, b⟩, c⟩, d⟩, e⟩, f⟩, g⟩
def srt36 : Go.X.Callee := fun args hp => match args, hp with
  | [.one (.row 0), .one (.fn 33 [.ptr 1 0, .ptr 3 0])], [.rows g0 (.ints .i64 xs), .cells g1 [.row 2], .rows g2 (.ints .i64 now), .cells g3 [.fn 32 [.ptr 4 0, .ptr 5 0, .ptr 1 0]], .cells g4 [.int .i64 K], .cells g5 [.str text]] =>
    if okS xs now text K then some (.tup [], [.rows g0 (.ints .i64 (srtI now xs K)), .cells g1 [.row 2], .rows g2 (.ints .i64 now), .cells g3 [.fn 32 [.ptr 4 0, .ptr 5 0, .ptr 1 0]], .cells g4 [.int .i64 K], .cells g5 [.str text]]) else none
  | _, _ => none
theorem srtI_length (now xs : List Int) (K : Int) : (srtI now xs K).length = xs.length := by
  have h := (srtD_ok now xs K).1.1
  simp [srtI, h, plD]
theorem holds_grow' {w : World} {b : Nat} {c : Array Value} {T : TypeId} {fr : Nat × Nat} (h : w.heap[b]? = some (.cells c T fr)) (m : Nat) {α : Type} [Inhabited α] (enc : α → Value) (blk off : Nat) (dk : Array α) (os : Array Obj) (hne : b ≠ blk) :
    (sortWorld enc w blk off m dk os).heap[b]? = some (.cells c T fr) := by
  have hb : b < w.heap.size := (Array.getElem?_eq_some_iff.1 h).1
  unfold sortWorld
  rw [heap_grow_old _ _ (by rw [size_putRow]; exact hb)]
  simp only [putRow, mapBlock, Array.getElem?_modify]
  rw [if_neg (fun e => hne e.symm)]
  exact h
theorem w36 : Sound Try.prog 36 srt36 := by
  intro args hp r hp' h
  unfold srt36 at h
  split at h
  rotate_left
  · simp at h
  rename_i g0 xs g1 g2 now g3 g4 K g5 text
  split at h
  rotate_left
  · simp at h
  rename_i hok
  obtain ⟨o1, o2, o3, o4, o5, o6, o7⟩ := okS_iff.1 hok
  simp only [Option.some.injEq, Prod.mk.injEq] at h
  obtain ⟨rfl, rfl⟩ := h
  refine ⟨by kernel_rfl, fun C ρ w rargs hP h0 hD hv hH => ?_⟩
  subst h0
  cases hv with
  | cons _ v _ vs h1 h2 =>
  cases h2 with
  | cons _ v2 _ vs2 h3 h4 =>
  cases h4
  cases h1 with
  | one _ _ h1 =>
  cases h1 with
  | row _ a m cap hk hρ0 =>
  cases h3 with
  | one _ _ h3 =>
  cases h3 with
  | fn _ _ cs hcs =>
  cases hcs with
  | cons _ p1 _ ps hp1 hps =>
  cases hps with
  | cons _ p3 _ ps2 hp3 hps2 =>
  cases hps2
  cases hp1 with
  | ptr _ _ b4 hk1 hρ1 =>
  cases hp3 with
  | ptr _ _ b7 hk3 hρ3 =>
  obtain ⟨wf0, sz0, tg0, hr0⟩ := hH.ob 0 _ rfl
  obtain ⟨b4', T1, cur1, e1, own1, hh1, hv1, tg1⟩ := hH.ob 1 _ rfl
  obtain ⟨wf2, sz2, tg2, hr2⟩ := hH.ob 2 _ rfl
  obtain ⟨b7', T3, cur3, e3, own3, hh3, hv3, tg3⟩ := hH.ob 3 _ rfl
  obtain ⟨b6, T4, cur4, e4, own4, hh4, hv4, tg4⟩ := hH.ob 4 _ rfl
  obtain ⟨b1, T5, cur5, e5, own5, hh5, hv5, tg5⟩ := hH.ob 5 _ rfl
  obtain rfl : b4' = b4 := by rw [hρ1] at e1; simpa using e1.symm
  obtain rfl : b7' = b7 := by rw [hρ3] at e3; simpa using e3.symm
  -- what the cells hold
  obtain ⟨v1, hc1, y1⟩ : ∃ v, cur1 = #[v] ∧ VR C 6 ρ (.row 2) v := by
    cases h : cur1 with | mk l => rw [h] at hv1; cases hv1 with | cons _ v _ vs h1 h2 => cases h2; exact ⟨v, rfl, h1⟩
  obtain ⟨v3, hc3, y3⟩ : ∃ v, cur3 = #[v] ∧ VR C 6 ρ (.fn 32 [.ptr 4 0, .ptr 5 0, .ptr 1 0]) v := by
    cases h : cur3 with | mk l => rw [h] at hv3; cases hv3 with | cons _ v _ vs h1 h2 => cases h2; exact ⟨v, rfl, h1⟩
  obtain ⟨v4, hc4, y4⟩ : ∃ v, cur4 = #[v] ∧ VR C 6 ρ (.int .i64 K) v := by
    cases h : cur4 with | mk l => rw [h] at hv4; cases hv4 with | cons _ v _ vs h1 h2 => cases h2; exact ⟨v, rfl, h1⟩
  obtain ⟨v5, hc5, y5⟩ : ∃ v, cur5 = #[v] ∧ VR C 6 ρ (.str text) v := by
    cases h : cur5 with | mk l => rw [h] at hv5; cases hv5 with | cons _ v _ vs h1 h2 => cases h2; exact ⟨v, rfl, h1⟩
  subst hc1 hc3 hc4 hc5
  obtain rfl : v4 = .int .i64 K := by cases y4; rfl
  obtain rfl : v5 = .string text := by cases y5; rfl
  obtain rfl : v3 = .func (.func 32) #[] #[.pointer (some ⟨b6, 0, none⟩), .pointer (some ⟨b1, 0, none⟩), .pointer (some ⟨b4', 0, none⟩)] := by
    cases y3 with
    | fn _ _ cs hcs =>
    cases hcs with
    | cons _ q1 _ qs hq1 hqs =>
    cases hqs with
    | cons _ q2 _ qs2 hq2 hqs2 =>
    cases hqs2 with
    | cons _ q3 _ qs3 hq3 hqs3 =>
    cases hqs3
    cases hq1 with
    | ptr _ _ c1 _ f1 =>
    cases hq2 with
    | ptr _ _ c2 _ f2 =>
    cases hq3 with
    | ptr _ _ c3 _ f3 =>
    rw [e4] at f1; rw [e5] at f2; rw [e1] at f3
    simp at f1 f2 f3
    subst f1 f2 f3
    rfl
  have hxl : 0 < xs.length := List.length_pos_iff.2 o1
  obtain ⟨hx0, hx1⟩ := o3 _ (List.getElem_mem hxl)
  have hnl : 0 < now.length := by omega
  rcases hr0 with ⟨_, hz⟩ | ⟨blk, off, cap0, cur0, T0, fr0, e0, own0, hh0, q1, q2, q3, q4, q5⟩
  · simp [RC.len] at hz; exact absurd hz o1
  rcases hr2 with ⟨_, hz⟩ | ⟨bn, on, cap2, cur2, T2, fr2, e2, own2, hh2, u1, u2, u3, u4, u5⟩
  · simp [RC.len] at hz; rw [hz] at hnl; simp at hnl
  obtain rfl : v1 = .slice (some ⟨bn, on, none⟩) now.length cap2 := by
    cases y1 with
    | row _ a m c _ h => rw [e2] at h; simp at h; obtain ⟨rfl, rfl, rfl⟩ := h; rfl
  rw [e0] at hρ0
  simp at hρ0
  obtain ⟨rfl, rfl, rfl⟩ := hρ0
  simp only [RC.len, RC.size, Nat.mul_one] at q1 q3 u1 u3
  have al : ∀ k, k < 6 → alive [Ob.rows g0 (.ints .i64 xs), .cells g1 [.row 2], .rows g2 (.ints .i64 now), .cells g3 [.fn 32 [.ptr 4 0, .ptr 5 0, .ptr 1 0]], .cells g4 [.int .i64 K], .cells g5 [.str text]] k := by
    intro k hk
    match k, hk with
    | 0, _ | 1, _ | 2, _ | 3, _ | 4, _ | 5, _ => exact ⟨_, rfl, by simp⟩
  have n1 : b4' ≠ blk := fun e => hH.ne 0 1 blk (by decide) (al 0 (by decide)) (al 1 (by decide)) (by rw [e0]; rfl) (by rw [e1, e]; rfl)
  have n2 : bn ≠ blk := fun e => hH.ne 0 2 blk (by decide) (al 0 (by decide)) (al 2 (by decide)) (by rw [e0]; rfl) (by rw [e2, e]; rfl)
  have n3 : b7' ≠ blk := fun e => hH.ne 0 3 blk (by decide) (al 0 (by decide)) (al 3 (by decide)) (by rw [e0]; rfl) (by rw [e3, e]; rfl)
  have n4 : b6 ≠ blk := fun e => hH.ne 0 4 blk (by decide) (al 0 (by decide)) (al 4 (by decide)) (by rw [e0]; rfl) (by rw [e4, e]; rfl)
  have n5 : b1 ≠ blk := fun e => hH.ne 0 5 blk (by decide) (al 0 (by decide)) (al 5 (by decide)) (by rw [e0]; rfl) (by rw [e5, e]; rfl)
  have hds : (plD now xs).size = xs.length := by simp [plD]
  have hdv : ∀ j, j < xs.length → (plE now (plD now xs)[j]!) = .int .i64 (xs.getD j 0) := by
    intro j hj
    have hj2 := o3 _ (List.getElem_mem hj)
    have : ((plD now xs)[j]!).val = xs[j].toNat := by
      rw [getElem!_pos _ j (by rw [hds]; exact hj)]
      simp [plD, Fin.ofNat]
      omega
    simp only [plE, this, List.getD, List.getElem?_eq_getElem hj, Option.getD_some]
    rw [Int.toNat_of_nonneg hj2.1]
  have hblk : blk < C.w0.heap.size := (Array.getElem?_eq_some_iff.1 hh0).1
  have hHold : Holds (plE now) C.w0 blk off (plD now xs) := by
    intro j hj
    rw [hds] at hj
    have hv := q4 j (.int .i64 (xs.getD j 0)) (by simp only [RC.vals, List.getElem?_map, List.getElem?_eq_getElem hj, Option.map_some, List.getD, Option.getD_some])
    refine ⟨?_, ?_⟩
    · rw [hdv j hj]; simp [World.cell?, hh0, hv]
    · have := q5 (off + j) (by omega)
      simp [World.frozen?, hh0]
      omega
  have hcmp : CmpLays1 Try.prog 33 #[.pointer (some ⟨b4', 0, none⟩), .pointer (some ⟨b7', 0, none⟩)] (plE now) (plC now K) blk off (plD now xs).size C.w0 := by
    intro m os dk hdk x y
    have g1' := holds_grow' hh1 m (plE now) blk off dk os n1
    have g2' := holds_grow' hh2 m (plE now) blk off dk os n2
    have g3' := holds_grow' hh3 m (plE now) blk off dk os n3
    have g4' := holds_grow' hh4 m (plE now) blk off dk os n4
    have g5' := holds_grow' hh5 m (plE now) blk off dk os n5
    refine k33 (text := text) (b6 := b6) (b1 := b1) (bn := bn) (on := on) (cap := cap2) ⟨by simp [World.cell?, g5'], by simp [World.cell?, g1'], by simp [World.cell?, g4'], fun j hj => ?_⟩ (by simp [World.cell?, g3']) o4 o5 ⟨o6, o7⟩ x.val y.val (by have := x.isLt; omega) (by have := y.isLt; omega)
    have hv := u4 j (.int .i64 (now.getD j 0)) (by simp only [RC.vals, List.getElem?_map, List.getElem?_eq_getElem hj, Option.map_some, List.getD, Option.getD_some])
    simp only [World.cell?, g2', hv, Option.isSome_none]
    rfl
  have hcon := Try.slices_SortFunc_eq (plE now) (fun _ => rfl) (plC now K) (plC_swo now K) 33 #[.pointer (some ⟨b4', 0, none⟩), .pointer (some ⟨b7', 0, none⟩)] blk off cap0 (plD now xs) C.w0 (enters_of Try.func33 (by kernel_rfl) rfl) hcmp hHold hblk (by rw [hds]; omega)
  rw [hds] at hcon
  refine Calls.mono hcon ?_
  rintro e w' ⟨rfl, n, os, rfl⟩
  have hsz : (srtD now xs K).size = xs.length := by rw [(srtD_ok now xs K).1.1, hds]
  have hw : pdq (ltOf (plC now K)) (plD now xs) 0 xs.length (Lib.bitLen xs.length) true true = srtD now xs K := by unfold srtD; rw [hds]
  rw [hw]
  have keep : ∀ {b : Nat} {c : Array Value} {T : TypeId} {fr : Nat × Nat}, b ≠ blk → C.w0.heap[b]? = some (.cells c T fr) → (sortWorld (plE now) C.w0 blk off n (srtD now xs K) os).heap[b]? = some (.cells c T fr) := fun hne h => holds_grow' h n (plE now) blk off _ os hne
  have hrow : (sortWorld (plE now) C.w0 blk off n (srtD now xs K) os).heap[blk]? = some (.cells (putCells (plE now) off (srtD now xs K) cur0) T0 fr0) := by
    unfold sortWorld
    rw [heap_grow_old _ _ (by rw [size_putRow]; exact hblk)]
    simp only [putRow, mapBlock, Array.getElem?_modify]
    rw [if_pos trivial, show (Sort.ahead C.w0 n).heap = C.w0.heap from rfl, hh0]
    rfl
  refine ⟨ρ, _, rfl, .tup _ _ .nil, ⟨fun k o ho => ?_, fun i j b hij hi hj => hH.ne i j b hij ?_ ?_⟩, ?_⟩
  · match k, ho with
    | 0, ho =>
      obtain rfl : Ob.rows g0 (.ints .i64 (srtI now xs K)) = o := by simpa using ho
      refine ⟨trivial, sz0, tg0, .inr ⟨blk, off, cap0, _, T0, fr0, ?_, own0, hrow, ?_, q2, ?_, ?_, ?_⟩⟩
      · rw [e0]; simp [RC.len, srtI_length]
      · simp [RC.len, srtI_length]; exact q1
      · simp [RC.size, putCells]; exact q3
      · intro j u hj
        simp only [RC.vals, srtI, List.map_map, List.getElem?_map, Option.map_eq_some_iff] at hj
        obtain ⟨x, hx, rfl⟩ := hj
        have hjl : j < xs.length := by
          have := (List.getElem?_eq_some_iff.1 hx).1
          simpa [hsz] using this
        have hc : off + j < cur0.size := by omega
        simp only [putCells, Array.getElem?_mapIdx, Array.getElem?_eq_getElem hc, Option.map_some]
        rw [if_pos ⟨by omega, by omega⟩, show off + j - off = j by omega]
        have : (srtD now xs K)[j]! = x := by
          rw [getElem!_pos _ j (by omega)]
          have h2 := (List.getElem?_eq_some_iff.1 hx).2
          simpa using h2
        rw [this]; rfl
      · intro j hj
        exact q5 j (by simpa [putCells] using hj)
    | 1, ho =>
      obtain rfl : Ob.cells g1 [.row 2] = o := by simpa using ho
      exact ⟨b4', T1, _, e1, own1, keep n1 hh1, hv1, tg1⟩
    | 2, ho =>
      obtain rfl : Ob.rows g2 (.ints .i64 now) = o := by simpa using ho
      exact ⟨wf2, sz2, tg2, .inr ⟨bn, on, cap2, cur2, T2, fr2, e2, own2, keep n2 hh2, u1, u2, by simpa [RC.size] using u3, u4, u5⟩⟩
    | 3, ho =>
      obtain rfl : Ob.cells g3 [.fn 32 [.ptr 4 0, .ptr 5 0, .ptr 1 0]] = o := by simpa using ho
      exact ⟨b7', T3, _, e3, own3, keep n3 hh3, hv3, tg3⟩
    | 4, ho =>
      obtain rfl : Ob.cells g4 [.int .i64 K] = o := by simpa using ho
      exact ⟨b6, T4, _, e4, own4, keep n4 hh4, hv4, tg4⟩
    | 5, ho =>
      obtain rfl : Ob.cells g5 [.str text] = o := by simpa using ho
      exact ⟨b1, T5, _, e5, own5, keep n5 hh5, hv5, tg5⟩
    | k + 6, ho => simp at ho
  · obtain ⟨o, ho, _⟩ := hi
    refine al i ?_
    have := (List.getElem?_eq_some_iff.1 ho).1
    simpa using this
  · obtain ⟨o, ho, _⟩ := hj
    refine al j ?_
    have := (List.getElem?_eq_some_iff.1 ho).1
    simpa using this
  · refine ⟨?_, ?_, rfl, rfl, rfl⟩
    · unfold sortWorld; rw [size_grow, size_putRow]; exact Nat.le_add_right _ _
    · intro b hb hS
      have hne : b ≠ blk := by
        rintro rfl
        rcases own0 with h | h
        · exact hS h
        · omega
      unfold sortWorld
      rw [heap_grow_old _ _ (by rw [size_putRow]; exact hb)]
      simp only [putRow, mapBlock, Array.getElem?_modify]
      rw [if_neg (fun e => hne e.symm)]
      rfl
#print axioms w36
theorem fr_below {C : Cx} {w w' : World} (h0 : C.w0 = w) (hb : Below w.heap.size w w') : FR C w' := by
  subst h0
  exact ⟨hb.size, fun b hb1 _ => hb.block b hb1, hb.os, hb.tape, hb.output⟩
theorem hr_row {C : Cx} {w' : World} {v : Value} {l : List Int} {n : Nat} (hn : n = l.length) (hl : l.length ≤ 100000) (h : w'.ownsRow C.w0.heap.size 3 1 v n (l.map (Value.int .i64))) : HR C (fun _ => ⟨v, 1⟩) [.rows none (.ints .i64 l)] w' ∧ ∃ a m cap, v = .slice a m cap := by
  obtain ⟨h1, h2⟩ := h
  subst hn
  refine ⟨⟨fun k o ho => ?_, fun j k b hjk hj hk => ?_⟩, ?_⟩
  · cases k with
    | succ k => simp at ho
    | zero =>
      simp only [List.getElem?_cons_zero, Option.some.injEq] at ho
      subst ho
      refine ⟨trivial, rfl, nofun, ?_⟩
      rcases h2 with ⟨rfl, h2⟩ | ⟨g, cap, cur, rfl, hg, hh, hc1, hc2, hc3, hc4⟩
      · exact .inl ⟨rfl, h2⟩
      · refine .inr ⟨g, 0, cap, cur, 3, (0, 0), rfl, .inr hg, hh, hc1, hc2, by simp [RC.size, hc3], fun j u hj => ?_, fun j _ => by simp⟩
        simp only [RC.vals] at hj
        rw [← hc4] at hj
        rw [Nat.zero_add, ← Array.getElem?_toList]
        rw [List.getElem?_take] at hj
        split at hj
        · exact hj
        · simp at hj
  · obtain ⟨_, e1, _⟩ := hj
    obtain ⟨_, e2, _⟩ := hk
    cases j with
    | succ j => simp at e1
    | zero =>
      cases k with
      | succ k => simp at e2
      | zero => exact absurd rfl hjk
  · rcases h2 with ⟨rfl, h2⟩ | ⟨g, cap, cur, rfl, hg, hh, hc1, hc2, hc3, hc4⟩ <;> exact ⟨_, _, _, rfl⟩
def cl28 : Go.X.Callee := fun args hp => match args, hp with
  | [.one (.ro _ (.ints .i64 l))], [] => if l.length ≤ 100000 then some (.one (.row 0), [.rows none (.ints .i64 l)]) else none
  | _, _ => none
theorem w28 : Sound Try.prog 28 cl28 := by
  intro args hp r hp' h
  unfold cl28 at h
  split at h
  · rename_i t l
    split at h
    · rename_i hl
      simp only [Option.some.injEq, Prod.mk.injEq] at h
      obtain ⟨rfl, rfl⟩ := h
      refine ⟨by kernel_rfl, fun C ρ w rargs hP h0 hD hv hH => ?_⟩
      cases hv with
      | cons _ v _ vs h1 h2 =>
        cases h2
        cases h1 with
        | one _ _ h1 =>
          cases h1 with
          | ro _ _ a cap hr hc =>
            obtain ⟨hw, hr⟩ := hr
            have post : ∀ (e : Ending) (w' : World), (∃ v', e = .returned v' ∧ w'.ownsRow w.heap.size 3 1 v' l.length (l.map (Value.int .i64)) ∧ Below w.heap.size w w') → ∃ ρ' rv, e = .returned rv ∧ AVR C [Ob.rows none (.ints .i64 l)].length ρ' (.one (.row 0)) rv ∧ HR C ρ' [.rows none (.ints .i64 l)] w' ∧ FR C w' := by
              rintro e w' ⟨v', rfl, ho, hb⟩
              rw [← h0] at ho
              obtain ⟨q1, a', m', c', rfl⟩ := hr_row rfl hl ho
              exact ⟨_, _, rfl, .one _ _ (.row 0 a' m' c' (by simp) rfl), q1, fr_below h0 hb⟩
            show Calls Try.prog 28 #[.slice a l.length cap] w _
            cases l with
            | nil =>
              cases a with
              | none =>
                refine (Try.slices_Clone_int_nil 0 cap w).mono fun e w' ⟨he, hw'⟩ => post e w' ⟨_, he, ?_, ?_⟩
                · subst hw'; exact ⟨rfl, .inl ⟨rfl, rfl⟩⟩
                · subst hw'; exact Below.refl _ _
              | some a =>
                exact (Try.slices_Clone_int_zero a cap w).mono fun e w' ⟨v', he, ho, _, hb⟩ => post e w' ⟨v', he, ho, hb⟩
            | cons s l =>
              obtain ⟨b, o, rfl, _, _, hcell⟩ := hr (by simp [RC.len])
              rw [h0] at hcell
              have hcl := Try.slices_Clone_int b o (s :: l).length cap (s :: l) w (Nat.le_refl _) (by omega) (fun j hj => by
                rw [hcell j (.int .i64 ((s :: l).getD j 0)) (by
                  simp only [RC.vals, List.getElem?_map, List.getElem?_eq_getElem hj, Option.map_some, List.getD, Option.getD_some])])
              rw [List.take_length] at hcl
              exact hcl.mono fun e w' ⟨v', he, ho, _, hb⟩ => post e w' ⟨v', he, ho, hb⟩
    · simp at h
  · simp at h
def cmp26 : Go.X.Callee := fun args hp => match args, hp with
  | [.one (.str a), .one (.str b)], [] => some (.one (.int .i64 (Lib.compareBytes a.data.toList b.data.toList)), [])
  | _, _ => none
theorem w26 : Sound Try.prog 26 cmp26 := by
  intro args hp r hp' h
  unfold cmp26 at h
  split at h
  rotate_left
  · simp at h
  rename_i a b
  simp only [Option.some.injEq, Prod.mk.injEq] at h
  obtain ⟨rfl, rfl⟩ := h
  refine ⟨by kernel_rfl, fun C ρ w rargs hP h0 hD hv hH => ?_⟩
  subst h0
  cases hv with
  | cons _ v _ vs h1 h2 =>
  cases h2 with
  | cons _ v2 _ vs2 h3 h4 =>
  cases h4
  cases h1 with
  | one _ _ h1 =>
  cases h1
  cases h3 with
  | one _ _ h3 =>
  cases h3
  refine (Try.strings_Compare a b C.w0).mono ?_
  rintro e w' ⟨rfl, rfl⟩
  exact ⟨ρ, _, rfl, .one _ _ (.int _ _), hH, FR.start rfl⟩
def srtS (xs : List Int) : List Int := xs.mergeSort fun x y => decide (x ≤ y)
theorem srtS_length (xs : List Int) : (srtS xs).length = xs.length := by simp [srtS]
def srt29 : Go.X.Callee := fun args hp => match args, hp with
  | [.one (.row 0)], [.rows g (.ints .i64 xs)] => if xs.length ≤ 100000 then some (.tup [], [.rows g (.ints .i64 (srtS xs))]) else none
  | _, _ => none
theorem w29 : Sound Try.prog 29 srt29 := by
  intro args hp r hp' h
  unfold srt29 at h
  split at h
  rotate_left
  · simp at h
  rename_i g xs
  split at h
  rotate_left
  · simp at h
  rename_i hok
  simp only [Option.some.injEq, Prod.mk.injEq] at h
  obtain ⟨rfl, rfl⟩ := h
  refine ⟨by kernel_rfl, fun C ρ w rargs hP h0 hD hv hH => ?_⟩
  subst h0
  cases hv with
  | cons _ v _ vs h1 h2 =>
  cases h2
  cases h1 with
  | one _ _ h1 =>
  cases h1 with
  | row _ a m cap hk hρ0 =>
  obtain ⟨wf0, sz0, tg0, hr0⟩ := hH.ob 0 _ rfl
  rcases hr0 with ⟨e0, hz⟩ | ⟨blk, off, cap0, cur0, T0, fr0, e0, own0, hh0, q1, q2, q3, q4, q5⟩
  · have hx : xs = [] := by simpa [RC.len] using hz
    subst hx
    rw [e0] at hρ0
    simp at hρ0
    obtain ⟨rfl, rfl, rfl⟩ := hρ0
    refine (Try.slices_Sort_int_none none 0 C.w0).mono ?_
    rintro e w' ⟨rfl, rfl⟩
    have : srtS [] = [] := by simp [srtS]
    rw [this]
    exact ⟨ρ, _, rfl, .tup _ _ .nil, hH, FR.start rfl⟩
  rw [e0] at hρ0
  simp at hρ0
  obtain ⟨rfl, rfl, rfl⟩ := hρ0
  simp only [RC.len, RC.size, Nat.mul_one] at q1 q3
  have hblk : blk < C.w0.heap.size := (Array.getElem?_eq_some_iff.1 hh0).1
  have hHold : Holds (Value.int .i64) C.w0 blk off xs.toArray := by
    intro j hj
    have hj : j < xs.length := by simpa using hj
    have hv := q4 j (.int .i64 (xs.getD j 0)) (by simp only [RC.vals, List.getElem?_map, List.getElem?_eq_getElem hj, Option.map_some, List.getD, Option.getD_some])
    refine ⟨?_, ?_⟩
    · have : xs.toArray[j]! = xs.getD j 0 := by
        rw [getElem!_pos _ j (by simpa using hj)]
        simp [List.getD, hj]
      rw [this]; simp only [World.cell?, hh0, hv, Option.isSome_none]; rfl
    · have := q5 (off + j) (by omega)
      simp [World.frozen?, hh0]
      omega
  have hcon := Try.slices_Sort_int blk off cap0 xs C.w0 hHold hblk (by omega)
  refine Calls.mono hcon ?_
  rintro e w' ⟨rfl, n, os, rfl⟩
  have hsz : (srtS xs).toArray.size = xs.length := by simp [srtS]
  have hw : (xs.mergeSort fun x y => decide (x ≤ y)) = srtS xs := rfl
  rw [hw]
  have hrow : (grow (putRow (Value.int .i64) (Sort.ahead C.w0 n) blk off (srtS xs).toArray) os).heap[blk]? = some (.cells (putCells (Value.int .i64) off (srtS xs).toArray cur0) T0 fr0) := by
    rw [heap_grow_old _ _ (by rw [size_putRow]; exact hblk)]
    simp only [putRow, mapBlock, Array.getElem?_modify]
    rw [if_pos trivial, show (Sort.ahead C.w0 n).heap = C.w0.heap from rfl, hh0]
    rfl
  refine ⟨ρ, _, rfl, .tup _ _ .nil, ⟨fun k o ho => ?_, fun i j b hij hi hj => ?_⟩, ?_⟩
  · match k, ho with
    | 0, ho =>
      obtain rfl : Ob.rows g (.ints .i64 (srtS xs)) = o := by simpa using ho
      refine ⟨trivial, sz0, tg0, .inr ⟨blk, off, cap0, _, T0, fr0, ?_, own0, hrow, ?_, q2, ?_, ?_, ?_⟩⟩
      · rw [e0]; simp [RC.len, srtS_length]
      · simp [RC.len, srtS_length]; exact q1
      · simp [RC.size, putCells]; exact q3
      · intro j u hj
        simp only [RC.vals, List.getElem?_map, Option.map_eq_some_iff] at hj
        obtain ⟨x, hx, rfl⟩ := hj
        have hjl : j < xs.length := by
          have := (List.getElem?_eq_some_iff.1 hx).1
          rwa [srtS_length] at this
        have hc : off + j < cur0.size := by omega
        simp only [putCells, Array.getElem?_mapIdx, Array.getElem?_eq_getElem hc, Option.map_some]
        rw [if_pos ⟨by omega, by omega⟩, show off + j - off = j by omega]
        have : (srtS xs).toArray[j]! = x := by
          rw [getElem!_pos _ j (by omega)]
          have h2 := (List.getElem?_eq_some_iff.1 hx).2
          simpa using h2
        rw [this]
      · intro j hj
        exact q5 j (by simpa [putCells] using hj)
    | k + 1, ho => simp at ho
  · obtain ⟨o1, ho1, _⟩ := hi
    obtain ⟨o2, ho2, _⟩ := hj
    have h1 := (List.getElem?_eq_some_iff.1 ho1).1
    have h2 := (List.getElem?_eq_some_iff.1 ho2).1
    simp at h1 h2
    omega
  · refine ⟨?_, ?_, rfl, rfl, rfl⟩
    · rw [size_grow, size_putRow]; exact Nat.le_add_right _ _
    · intro b hb hS
      have hne : b ≠ blk := by
        rintro rfl
        rcases own0 with h | h
        · exact hS h
        · omega
      rw [heap_grow_old _ _ (by rw [size_putRow]; exact hb)]
      simp only [putRow, mapBlock, Array.getElem?_modify]
      rw [if_neg (fun e => hne e.symm)]
      rfl
def F36' : Go.X.Callee := fun args hp => match args, hp with
  | [.one (.row 0), .one (.fn 33 [.ptr 1 0, .ptr 3 0])], [.rows g0 (.ints .i64 []), o1, o2, o3, o4, o5] => some (.tup [], [.rows g0 (.ints .i64 []), o1, o2, o3, o4, o5])
  | _, _ => srt36 args hp
theorem w36' : Sound Try.prog 36 F36' := by
  intro args hp r hp' h
  unfold F36' at h
  split at h
  rotate_left
  · exact w36 args hp r hp' h
  rename_i g0 o1 o2 o3 o4 o5
  simp only [Option.some.injEq, Prod.mk.injEq] at h
  obtain ⟨rfl, rfl⟩ := h
  refine ⟨by kernel_rfl, fun C ρ w rargs hP h0 hD hv hH => ?_⟩
  subst h0
  cases hv with
  | cons _ v _ vs h1 h2 =>
  cases h2 with
  | cons _ v2 _ vs2 h3 h4 =>
  cases h4
  cases h1 with
  | one _ _ h1 =>
  cases h1 with
  | row _ a m cap hk hρ0 =>
  obtain ⟨wf0, sz0, tg0, hr0⟩ := hH.ob 0 _ rfl
  have hm : m = 0 := by
    rcases hr0 with ⟨e0, hz⟩ | ⟨blk, off, cap0, cur0, T0, fr0, e0, _⟩
    · rw [e0] at hρ0; simp at hρ0; exact hρ0.2.1.symm
    · rw [e0] at hρ0; simp [RC.len] at hρ0; exact hρ0.2.1.symm
  subst hm
  refine (AnyF.slices_SortFunc_none (P := Try.prog) (ρ := Try.laysSlF6_f36_ren) { Try.laysSlF6_f36 with } a cap v2 C.w0).mono ?_
  rintro e w' ⟨rfl, rfl⟩
  exact ⟨ρ, _, rfl, .tup _ _ .nil, hH, FR.start rfl⟩
#print axioms w36'
#print axioms w29
#print axioms w28
end Go.Proofs
