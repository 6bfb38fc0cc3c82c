import Derived.Test.YthcbhmgjkecppaaA5
set_option linter.unusedVariables false
namespace Go.X
/-- Whatever comes behind an operation, if it holds of what the operation leaves by the abstract run, is reached. -/
def Good (C : Cx) (ρ : Nat → RV) (hp : List Ob) (o : Oper) (a : Act) (w : World) (res : AV × List Ob) : Prop :=
  ∀ (K : Act → World → Prop) (Q : Exit → Act → World → Prop),
    (∀ (ρ' : Nat → RV) (v : Value) (w' : World), hp.length ≤ res.2.length → Ext hp.length ρ ρ' → AVR C res.2.length ρ' res.1 v → HR C ρ' res.2 w' → FR C w' → K (a.put o.dst v) w') → o.wp C.P a w K Q
section
variable {C : Cx} {ρ : Nat → RV} {hp : List Ob} {o : Oper} {a : Act} {w : World} {env : Env}
theorem good_value {res : AV × List Ob} {v : Value} {w' : World} (hr : (execOp a.eval o).run C.P w = .ok (.value v) w') (ρ' : Nat → RV) (hl : hp.length ≤ res.2.length) (E : Ext hp.length ρ ρ')
    (hv : AVR C res.2.length ρ' res.1 v) (hH : HR C ρ' res.2 w') (hF : FR C w') : Good C ρ hp o a w res := by
  intro K Q k
  show o.upon C.P a K Q _
  rw [hr]
  exact k ρ' v w' hl E hv hH hF
theorem good_skip {res : AV × List Ob} {w' : World} (hr : (execOp a.eval o).run C.P w = .ok .skip w') (ρ' : Nat → RV) (hl : hp.length ≤ res.2.length) (E : Ext hp.length ρ ρ')
    (hv : res.1 = .one .undef) (hH : HR C ρ' res.2 w') (hF : FR C w') : Good C ρ hp o a w res := by
  intro K Q k
  show o.upon C.P a K Q _
  rw [hr]
  exact k ρ' undef w' hl E (by rw [hv]; exact .one _ _ (.undef _)) hH hF
/-- A value, the world and the objects as they were. -/
theorem good_same {s : AV} {v : Value} (hr : (execOp a.eval o).run C.P w = .ok (.value v) w) (hv : AVR C hp.length ρ s v) (hH : HR C ρ hp w) (hF : FR C w) : Good C ρ hp o a w (s, hp) :=
  good_value hr ρ (Nat.le_refl _) (Ext.refl _ _) hv hH hF
theorem val_run (s : Sem Value) {v : Value} {w' : World} (h : s.run C.P w = .ok v w') : Sem.run C.P (do pure (Next.value (← s))) w = .ok (.value v) w' := by
  simp [h]
theorem unit_run (s : Sem Unit) {w' : World} (h : s.run C.P w = .ok () w') : Sem.run C.P (do s; pure Next.skip) w = .ok .skip w' := by
  simp [h]
theorem AVR.sv_of {n : Nat} {s : AV} {v : Value} (h : AVR C n ρ s v) (hs : s.sv ≠ .undef) : s = .one s.sv ∧ VR C n ρ s.sv v := by
  cases h with
  | one s v h => exact ⟨rfl, h⟩
  | agg l vs h => exact absurd rfl hs
  | tup l vs h => exact absurd rfl hs
theorem g_mv {x : AO} {X : Operand} {t : TypeId} (ho : o.op = .move X ∨ o.op = .assign X) (hx : cOp C.P t X = some x) (he : EnvR C hp.length ρ env a) (hH : HR C ρ hp w) (hF : FR C w) : Good C ρ hp o a w (getO env x, hp) := by
  refine good_same (v := a.eval X) ?_ (cOp_ok hx he) hH hF
  obtain ⟨dst, op, type, pos, after, guard⟩ := o
  rcases ho with rfl | rfl <;> simp [execOp]
theorem HR.newRow {c : RC} {b : Option Addr} (hH : HR C ρ hp w) (h0 : c.len = 0) (hw : c.wf) : HR C (up ρ hp.length ⟨.slice none 0 0, c.size⟩) (hp ++ [.rows none c]) w :=
  hH.push ⟨hw, by rw [up_at], by simp, .inl ⟨by rw [up_at], h0⟩⟩ (fun _ _ _ _ => by simp [blkOf])
theorem up_row (n : Nat) (a : Option Addr) (m c sz : Nat) : VR C (n + 1) (up ρ n ⟨.slice a m c, sz⟩) (.row n) (.slice a m c) := .row n a m c (Nat.lt_succ_self _) (by rw [up_at])
theorem g_newNil {c0 : RC} {z : List Sc} {X : Operand} {e : TypeId} (ho : o.op = .move X ∨ o.op = .assign X) (hX : isNilConst X = true) (hr : rowT C.P e = some (c0, z)) (hH : HR C ρ hp w) (hF : FR C w) :
    Good C ρ hp o a w (.one (.row hp.length), hp ++ [.rows none c0]) := by
  have hk := rowT_ok hr
  have hX' : X = .const (.slice none 0 0) := by
    unfold isNilConst at hX
    split at hX
    · rfl
    · simp at hX
  subst hX'
  refine good_value (v := .slice none 0 0) (w' := w) ?_ (up ρ hp.length ⟨.slice none 0 0, c0.size⟩) (by simp) (up_ext _ _ _) ?_ (hH.newRow (b := none) hk.len hk.wf) hF
  · obtain ⟨dst, op, type, pos, after, guard⟩ := o
    rcases ho with rfl | rfl <;> simp [execOp, Act.eval]
  · simp only [List.length_append, List.length_cons, List.length_nil, Nat.zero_add]
    exact .one _ _ (up_row _ _ _ _ _)
theorem asBool_run (b : Bool) : (asBool (.bool b)).run C.P w = .ok b w := rfl
theorem g_pick {c x y : AO} {Cc X Y : Operand} {t t' t'' : TypeId} {res : AV × List Ob} (ho : o.op = .pick Cc X Y) (hc : cOp C.P t Cc = some c) (hx : cOp C.P t' X = some x) (hy : cOp C.P t'' Y = some y)
    (he : EnvR C hp.length ρ env a) (hH : HR C ρ hp w) (hF : FR C w) (h : oPick hp (getO env x) (getO env y) (getO env c) = some res) : Good C ρ hp o a w res := by
  have h1 := cOp_ok hc he
  have h2 := cOp_ok hx he
  have h3 := cOp_ok hy he
  generalize getO env c = s at h h1
  unfold oPick at h
  split at h
  · rename_i b
    simp at h; subst h
    cases h1 with
    | one _ _ h1 =>
      generalize hv : a.eval Cc = v at h1
      cases h1
      refine good_same (v := if b = true then a.eval X else a.eval Y) ?_ (by cases b <;> simp [h2, h3]) hH hF
      obtain ⟨dst, op, type, pos, after, guard⟩ := o
      dsimp only at ho; subst ho
      cases b <;> simp [execOp, hv, asBool]
  · simp at h
end
end Go.X
