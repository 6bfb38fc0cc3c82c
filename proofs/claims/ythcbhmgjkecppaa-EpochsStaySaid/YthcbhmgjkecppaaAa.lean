import Derived.Test.YthcbhmgjkecppaaA9
import Derived.Laws.BytesArg
set_option linter.unusedVariables false
namespace Go.X
section
variable {C : Cx} {ρ : Nat → RV} {hp : List Ob} {o : Oper} {a : Act} {w w' : World} {env : Env}
/-- An operation of one operand whose value hangs on that operand alone. -/
theorem good_pure {s : AV} {v : Value} {r : Sem Value} (ho : execOp a.eval o = (do pure (Next.value (← r)))) (hr : r.run C.P w = .ok v w) (hv : AVR C hp.length ρ s v) (hH : HR C ρ hp w) (hF : FR C w) : Good C ρ hp o a w (s, hp) :=
  good_same (by rw [ho]; exact val_run _ hr) hv hH hF
theorem g_nilCheck {t : TypeId} {X : Operand} {x : AO} {res : AV × List Ob} (ho : o.op = .nilCheck X) (hx : cOp C.P t X = some x) (he : EnvR C hp.length ρ env a) (hH : HR C ρ hp w) (hF : FR C w) (h : oNilCheck hp (getO env x) = some res) : Good C ρ hp o a w res := by
  have h1 := cOp_ok hx he
  generalize getO env x = s at h h1
  have hv : AVR C hp.length ρ s (a.eval X) := h1
  unfold oNilCheck at h
  split at h <;> simp at h <;> subst h <;> cases h1 with | one _ _ h1 => ?_
  all_goals
    refine good_same (v := a.eval X) ?_ hv hH hF
    obtain ⟨dst, op, type, pos, after, guard⟩ := o
    dsimp only at ho; subst ho
    simp only [execOp]
    generalize a.eval X = v at h1
    cases h1 <;> simp
theorem g_fadr {T : TypeId} {t : TypeId} {X : Operand} {x : AO} {f : Nat} {fs : Array Field} {fd : Field} {n : Nat} {res : AV × List Ob} (ho : o.op = .fieldAddr T X f) (hs : C.P.underlying T = some (.struct fs)) (hf : fs[f]? = some fd) (hn : sizeT C.P fd.type = some n) (h0 : n ≠ 0)
    (hx : cOp C.P t X = some x) (he : EnvR C hp.length ρ env a) (hH : HR C ρ hp w) (hF : FR C w) (h : oFadr hp fd.offset (getO env x) = some res) : Good C ρ hp o a w res := by
  have h1 := cOp_ok hx he
  generalize getO env x = s at h h1
  obtain ⟨dst, op, type, pos, after, guard⟩ := o
  dsimp only at ho; subst ho
  have key : ∀ b q, a.eval X = .pointer (some ⟨b, q, none⟩) → (Instr.fieldAt T (a.eval X) f).run C.P w = .ok (.pointer (some ⟨b, q + fd.offset, none⟩)) w := by
    intro b q e
    rw [e]
    simp [Instr.fieldAt, run_underlying hs, hf, Instr.sureAddr, fieldPlace, run_sizeT w hn, h0, Addr.add_lit]
  unfold oFadr at h
  split at h <;> simp at h <;> subst h <;> cases h1 with | one _ _ h1 => ?_
  all_goals generalize hv : a.eval X = v at h1
  · cases h1 with
    | ptr k o b hk hb => exact good_same (val_run _ (key _ _ hv)) (.one _ _ (.ptr _ _ _ hk hb)) hH hF
  · cases h1 with
    | eptr k i o b q m cap hk hb hi =>
      refine good_same (val_run _ (key _ _ hv)) (.one _ _ ?_) hH hF
      rw [Nat.add_assoc]
      exact .eptr _ _ _ b q m cap hk hb hi
  · cases h1 with
    | rptr t c i o b q hr hi =>
      refine good_same (val_run _ (key _ _ hv)) (.one _ _ ?_) hH hF
      rw [Nat.add_assoc]
      exact .rptr _ _ _ _ b q hr hi
theorem part_ok {n : Nat} {l : List SV} {vs : List Value} {t : TypeId} {b : Bool} {sz off : Nat} {s : AV} (hl : VRL C n ρ l vs) (hb : isAggT C.P t = some b) (hn : sizeT C.P t = some sz) (h : takeAV l off (if b = true then some sz else none) = some s) :
    ∃ v, (part t vs.toArray off).run C.P w = .ok v w ∧ AVR C n ρ s v := by
  cases b with
  | false =>
    simp only [Bool.false_eq_true, if_false, takeAV, Option.map_eq_some_iff] at h
    obtain ⟨s', hs, rfl⟩ := h
    obtain ⟨v, hv1, hv2⟩ := hl.get hs
    refine ⟨v, ?_, .one _ _ hv2⟩
    simp [part, run_isAgg w hb, hv1]
  | true =>
    simp only [if_true, takeAV] at h
    split at h <;> simp at h
    subst h
    refine ⟨.agg (vs.toArray.extract off (off + sz)), ?_, ?_⟩
    · simp [part, run_isAgg w hb, run_sizeT w hn]
    · have := AVR.agg _ _ ((hl.drop off).take sz)
      have e : vs.toArray.extract off (off + sz) = ((vs.drop off).take sz).toArray := by simp [List.extract_toArray, List.extract_eq_take_drop]
      rw [e]; exact this
theorem g_fld {t t' : TypeId} {X : Operand} {x : AO} {f : Nat} {fs : Array Field} {fd : Field} {n : Nat} {b : Bool} {res : AV × List Ob} (ho : o.op = .field t X f) (hs : C.P.underlying t = some (.struct fs)) (hf : fs[f]? = some fd) (hb : isAggT C.P fd.type = some b) (hn : sizeT C.P fd.type = some n)
    (hx : cOp C.P t' X = some x) (he : EnvR C hp.length ρ env a) (hH : HR C ρ hp w) (hF : FR C w) (h : oFld hp fd.offset (if b = true then some n else none) (getO env x) = some res) : Good C ρ hp o a w res := by
  have h1 := cOp_ok hx he
  generalize getO env x = s at h h1
  obtain ⟨dst, op, type, pos, after, guard⟩ := o
  dsimp only at ho; subst ho
  unfold oFld at h
  split at h
  · rename_i l
    cases hta : takeAV l fd.offset (if b = true then some n else none) with
    | none => rw [hta] at h; simp [putA] at h
    | some s' =>
      rw [hta] at h
      simp [putA] at h; subst h
      generalize hv : a.eval X = v at h1
      cases h1 with
      | agg _ vs hl =>
        obtain ⟨u, hr, hu⟩ := part_ok (w := w) hl hb hn hta
        refine good_same (v := u) (val_run _ ?_) hu hH hF
        rw [hv]
        simp [Instr.field, run_underlying hs, hf, asAgg, hr]
  · simp at h
theorem g_extract {t : TypeId} {X : Operand} {x : AO} {i : Nat} {res : AV × List Ob} (ho : o.op = .extract X i) (hx : cOp C.P t X = some x) (he : EnvR C hp.length ρ env a) (hH : HR C ρ hp w) (hF : FR C w) (h : oExtract hp i (getO env x) = some res) : Good C ρ hp o a w res := by
  have h1 := cOp_ok hx he
  generalize getO env x = s at h h1
  obtain ⟨dst, op, type, pos, after, guard⟩ := o
  dsimp only at ho; subst ho
  unfold oExtract at h
  split at h
  · rename_i l
    cases hg : l[i]? with
    | none => rw [hg] at h; simp [putA] at h
    | some s' =>
      rw [hg] at h
      simp [putA] at h; subst h
      generalize hv : a.eval X = v at h1
      cases h1 with
      | tup _ vs hl =>
        obtain ⟨u, hu1, hu2⟩ := hl.get hg
        refine good_same (v := u) (val_run _ ?_) hu2 hH hF
        rw [hv]
        simp [Instr.extract, hu1]
  · simp at h
theorem g_conv {s d t : TypeId} {k k' : IntKind} {X : Operand} {x : AO} {res : AV × List Ob} (ho : o.op = .convert s d X) (hs : C.P.underlying s = some (.int k')) (hd : C.P.underlying d = some (.int k)) (hx : cOp C.P t X = some x) (he : EnvR C hp.length ρ env a) (hH : HR C ρ hp w) (hF : FR C w)
    (h : oConv hp k (getO env x) = some res) : Good C ρ hp o a w res := by
  have h1 := cOp_ok hx he
  generalize getO env x = s at h h1
  obtain ⟨dst, op, type, pos, after, guard⟩ := o
  dsimp only at ho; subst ho
  unfold oConv at h
  split at h <;> simp at h
  subst h
  generalize hv : a.eval X = v at h1
  cases h1 with
  | one _ _ h1 =>
    cases h1
    refine good_same (val_run _ ?_) (.one _ _ (.int _ _)) hH hF
    rw [hv]
    simp [convert, run_underlying hs, run_underlying hd, Conv.intToInt]
theorem g_un {t : TypeId} {op : UnOp} {T : TypeId} {X : Operand} {x : AO} {res : AV × List Ob} (ho : o.op = .unOp op T X) (hx : cOp C.P t X = some x) (he : EnvR C hp.length ρ env a) (hH : HR C ρ hp w) (hF : FR C w) (h : put1 hp (un op (getS env x)) = some res) : Good C ρ hp o a w res := by
  have h1 := cOp_ok hx he
  cases hu : un op (getS env x) with
  | none => simp [hu, put1] at h
  | some s =>
    simp [hu, put1] at h; subst h
    obtain ⟨_, h2⟩ := h1.sv_of (by intro e; rw [getS, e] at hu; simp [un] at hu)
    obtain ⟨dst, op', type, pos, after, guard⟩ := o
    dsimp only at ho; subst ho
    simp only [getS] at hu
    generalize (getO env x).sv = s0 at hu h2
    generalize hv : a.eval X = v at h2
    unfold un at hu
    split at hu
    · cases h2
      split at hu <;> simp at hu <;> subst hu
      · refine good_same (val_run _ ?_) (.one _ _ (.int _ _)) hH hF
        rw [hv]; simp [Op.unary, Op.intArith]
      · refine good_same (val_run _ ?_) (.one _ _ (.int _ _)) hH hF
        rw [hv]; simp [Op.unary, Op.intBits, bitsI]
    · cases h2
      split at hu <;> simp at hu <;> subst hu
      refine good_same (val_run _ ?_) (.one _ _ (.bool _)) hH hF
      rw [hv]; simp [Op.unary]
    · simp at hu
theorem binI_run {op : BinOp} {k : IntKind} {x y : Int} {s : SV} (T : TypeId) (h : bin op (.int k x) (.int k y) = some s) (hop : op ≠ .shl) (hop' : op ≠ .shr) : ∃ v, (binOp op T (.int k x) (.int k y)).run C.P w = .ok v w ∧ VR C hp.length ρ s v := by
  cases op <;> simp [bin, binI] at h hop hop'
  all_goals first
    | (obtain ⟨h0, rfl⟩ := h; refine ⟨_, ?_, .int _ _⟩; simp [binOp, Op.intDiv, h0])
    | (subst h; refine ⟨_, ?_, .int _ _⟩; simp [binOp, Op.intArith, Op.intBits, bitsI]; done)
    | (subst h; refine ⟨_, ?_, .bool _⟩; simp [binOp, Op.intCmp])
theorem g_bin {op : BinOp} {T t t' T' : TypeId} {X Y : Operand} {x y : AO} {res : AV × List Ob} (ho : o.op = .binOp op T X Y T') (hx : cOp C.P t X = some x) (hy : cOp C.P t' Y = some y)
    (he : EnvR C hp.length ρ env a) (hH : HR C ρ hp w) (hF : FR C w) (h : put1 hp (bin op (getS env x) (getS env y)) = some res) : Good C ρ hp o a w res := by
  have h1 := cOp_ok hx he
  have h2 := cOp_ok hy he
  cases hu : bin op (getS env x) (getS env y) with
  | none => simp [hu, put1] at h
  | some s =>
    simp [hu, put1] at h; subst h
    obtain ⟨_, h1⟩ := h1.sv_of (by intro e; rw [getS, e] at hu; simp [bin] at hu)
    obtain ⟨_, h2⟩ := h2.sv_of (by
      intro e
      simp only [getS, e] at hu
      cases (getO env x).sv <;> simp [bin] at hu)
    simp only [getS] at hu
    generalize (getO env x).sv = s1 at hu h1
    generalize (getO env y).sv = s2 at hu h2
    obtain ⟨dst, op', type, pos, after, guard⟩ := o
    dsimp only at ho; subst ho
    have key : ∃ v, (binOp op T (a.eval X) (a.eval Y)).run C.P w = .ok v w ∧ VR C hp.length ρ s v ∧ (eqGuard op T X Y (a.eval X) (a.eval Y)).run C.P w = .ok () w := by
      generalize a.eval X = v1 at h1
      generalize a.eval Y = v2 at h2
      unfold bin at hu
      split at hu
      · rename_i k p j q
        cases h1; cases h2
        have hg : (eqGuard op T X Y (.int k p) (.int j q)).run C.P w = .ok () w := by cases op <;> simp [eqGuard]
        split at hu
        · split at hu <;> simp at hu
          subst hu; rename_i hq
          exact ⟨_, by simp [binOp, Op.shift, hq, shlI], .int _ _, hg⟩
        · split at hu <;> simp at hu
          subst hu; rename_i hq
          exact ⟨_, by simp [binOp, Op.shift, hq, shrI], .int _ _, hg⟩
        · rename_i n1 n2
          split at hu
          · rename_i e; subst e
            have hb : bin op (.int k p) (.int k q) = some s := by
              cases op <;> first | exact absurd rfl n1 | exact absurd rfl n2 | (simp only [bin, if_true]; exact hu)
            obtain ⟨v, hr, hv⟩ := binI_run (C := C) (ρ := ρ) (hp := hp) (w := w) T hb n1 n2
            exact ⟨v, hr, hv, hg⟩
          · simp at hu
      · rename_i p q
        cases h1; cases h2
        have hg : (eqGuard op T X Y (.string p) (.string q)).run C.P w = .ok () w := by cases op <;> simp [eqGuard]
        unfold binS at hu
        split at hu
        · split at hu <;> simp at hu
          subst hu; rename_i hq
          refine ⟨_, ?_, .str _, hg⟩
          have : ¬ (((p.size + q.size : Nat) : Int) > IntKind.i64.max) := by simp [IntKind.max, IntKind.signed, IntKind.bits]; omega
          simp only [binOp, Op.stringOp, if_neg this]
          rfl
        · simp at hu; subst hu
          exact ⟨_, by simp [binOp, Op.stringOp], .bool _, hg⟩
        · simp at hu; subst hu
          exact ⟨_, by simp [binOp, Op.stringOp], .bool _, hg⟩
        · simp at hu
      · simp at hu
    obtain ⟨v, hr, hv, hg⟩ := key
    refine good_same (v := v) (val_run _ ?_) (.one _ _ hv) hH hF
    simp [hg, hr]
end
end Go.X
